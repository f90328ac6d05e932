/- THE ABSTRACT MACHINE, 10: loads, stores, new variables and rows. -/
import Derived.Test.YtnpdeecoejabgaaKI
import Derived.Laws.CopyRow
import Derived.Laws.AppendOwn
set_option linter.unusedSimpArgs false
set_option linter.unusedVariables false
namespace Go.Proofs.Ytnpdeecoejabgaa
open Go Go.RowKit

section
variable {P : Program} {o : Oper} {cx : Ctx} {μ : Nat → Option Nat} {σ : ASt} {a : Act} {w : World}

theorem isAgg_run {t : TypeId} {u : TypeDesc} (hu : P.underlying t = some u) : (isAgg t).run P w = .ok (isAggB u) w := by
  simp only [isAgg, Sem.run_bind, run_underlying hu, Result.andThen_ok]
  cases u <;> rfl

/-- A load of cells that are known. -/
theorem load_run {t : TypeId} {i : TypeInfo} {u : TypeDesc} (hi : P.info? t = some i) (hu : P.underlying t = some u) (hs : isAggB u = true ∨ i.size = 1) {R : AC → Value → Prop} {ad : Addr} {cs : List AC} {f : Nat → Value}
    (hc : ∀ (j : Nat) (c : AC), cs[j]? = some c → w.cell? (ad.add j) = some (f j) ∧ R c (f j) ∧ (f j).oneCell' = true) {v : AV} (hv : ldVal (isAggB u) i.size cs = some v) :
    ∃ x, (Instr.loadAt t (.pointer (some ad))).run P w = .ok x w ∧ RepV R v x := by
  unfold ldVal at hv
  split at hv
  case isFalse => simp at hv
  rename_i hn
  have hcj : ∀ j, j < i.size → w.cell? (ad.add j) = some (f j) ∧ R (cs.getD j default) (f j) ∧ (f j).oneCell' = true := fun j hj => by
    have hlt : j < cs.length := by omega
    have := hc j cs[j] (by simp [hlt])
    simpa [List.getD, hlt] using this
  cases hb : isAggB u with
  | true =>
    rw [hb] at hv
    simp only [Option.some.injEq] at hv
    subst hv
    refine ⟨.agg ((List.range i.size).map f).toArray, ?_, .agg _ _ (by simp; omega) fun j c x h1 h2 => ?_⟩
    · have hl := run_loadCells (P := P) w ad i.size f fun j hj => (hcj j hj).1
      simp [Instr.loadAt, Instr.sureAddr, loadVar, isAgg_run hu, hb, sizeOf, typeInfo, hi, hl]
    · rw [List.getElem?_take] at h1
      split at h1
      · rename_i hlt
        have := hc j c h1
        simp [hlt] at h2
        subst h2
        exact ⟨this.2.1, this.2.2⟩
      · cases h1
  | false =>
    rw [hb] at hv
    cases cs with
    | nil => simp at hv
    | cons c r =>
      simp only [Option.some.injEq] at hv
      subst hv
      have := hc 0 c rfl
      refine ⟨f 0, ?_, .one _ _ this.2.1 this.2.2⟩
      have h1 := this.1
      simp [Addr.add] at h1
      simp [Instr.loadAt, Instr.sureAddr, loadVar, isAgg_run hu, hb, h1]

theorem go_ld (h : Rel cx μ σ a w) (hd : ∀ d, o.dst = some d → d < cx.n) {t : TypeId} {x : Operand} {ax : AX} {i : TypeInfo} {u : TypeDesc} (ho : o.op = .load t x) (hx : toX x = some ax) (hi : P.info? t = some i) (hu : P.underlying t = some u)
    (hs : isAggB u = true ∨ i.size = 1) {v : AV} (hv : (∃ cs, σ.ev ax = .one (.d (.ptr cs)) ∧ ldVal (isAggB u) i.size (dm cs) = some v) ∨
      ∃ k q m off l E sz xs cs, σ.ev ax = .one (.ref k q m off) ∧ q = σ.g k ∧ σ.o k = .row l E sz xs ∧ xs[m]? = some cs ∧ ldVal (isAggB u) i.size (cs.drop off) = some v) : Goes P o cx σ a w (v, []) := by
  have h1 := ev_toX h hx
  rcases hv with ⟨cs, he, hv⟩ | ⟨k, q, m, off, l, E, sz, xs, cs, he, hq, hrow, hcs, hv⟩
  · rw [he] at h1
    generalize hz : a.eval x = z at h1
    cases rv_one h1 with
    | d h2 => cases h2 with
      | ptr cs ad f hsp hX hb hc hr =>
        obtain ⟨y, h3, h4⟩ := load_run (P := P) (w := w) hi hu hs (R := RCl cx μ σ w) (ad := ad) (cs := dm cs) (f := f) (fun j c hj => by
          rw [List.getElem?_map] at hj
          cases hcj : cs[j]? with
          | none => rw [hcj] at hj; cases hj
          | some c0 => rw [hcj] at hj; cases hj; exact ⟨hc j c0 hcj, .d (hr j c0 hcj), (hr j c0 hcj).one⟩) hv
        exact goes_val h hd (by simp [execOp, ho, hz, h3]) h4
  · rw [he] at h1
    cases hr : rv_one h1 with
    | ref hg hp hat =>
      have h2 := hat hq
      unfold RefAt at h2
      rw [hrow] at h2
      obtain ⟨b, hb, hz⟩ := h2
      have ho2 := h.obj k
      unfold RelO at ho2
      rw [hrow] at ho2
      rcases ho2 with ⟨hn, _⟩ | ⟨b', cur, cap, h3, h4, h5, h6, h7, h8, h9, h10, h11⟩
      · rw [hn] at hb; cases hb
      · have : b' = b := by rw [h3] at hb; exact Option.some.inj hb
        subst this
        obtain ⟨y, h12, h13⟩ := load_run (P := P) (w := w) hi hu hs (R := RCl cx μ σ w) (ad := ⟨b', m * sz + off, none⟩) (cs := cs.drop off) (f := fun j => cur.getD (m * sz + (off + j)) undef) (fun j c hj => by
          rw [List.getElem?_drop] at hj
          obtain ⟨y, hy1, hy2⟩ := h10 m cs hcs _ _ hj
          have hlt : m * sz + (off + j) < cur.size := (Array.getElem?_eq_some_iff.1 hy1).1
          have hy : cur.getD (m * sz + (off + j)) undef = y := by simp [hy1]
          rw [add_mk, cell_of_row w b' _ cur E (0, 0) h4, Nat.add_assoc, hy1, hy]
          exact ⟨rfl, hy2, hy2.one⟩) hv
        exact goes_val h hd (by simp [execOp, ho, hz, h12]) h13

/-- Cells of a row, element by element. -/
def RowRel (R : AC → Value → Prop) (sz : Nat) (xs : List (List AC)) (cur : Array Value) : Prop :=
  (∀ x ∈ xs, x.length = sz) ∧ ∀ (i : Nat) (x : List AC), xs[i]? = some x → ∀ (j : Nat) (c : AC), x[j]? = some c → ∃ v, cur[i * sz + j]? = some v ∧ R c v

/-- A new row, or variable. -/
theorem go_new (h : Rel cx μ σ a w) (hd : ∀ d, o.dst = some d → d < cx.n) {d : Nat} {E sz cap : Nat} {xs : List (List AC)} {cells : Array Value} {w' : World} (hw : w'.heap = w.heap.push (.cells cells E)) (hos : w'.os = w.os) (htp : w'.tape = w.tape) (hou : w'.output = w.output)
    (hcs : cells.size = cap * sz) (hsz : 0 < sz) (hcap : cap ≤ 9223372036854775807) (hlen : xs.length ≤ cap) (hr : RowRel (RCl cx μ σ w) sz xs cells) {u : Value} (hrun : (execOp a.eval o).run P w = .ok (.value u) w')
    {v : AC} (hv : (v = .ref d (σ.g d + 1) 0 0 ∧ u = .pointer (some ⟨w.heap.size, 0, none⟩)) ∨ (∃ n c, v = .view d (σ.g d + 1) 0 n ∧ u = .slice (some ⟨w.heap.size, 0, none⟩) n c ∧ c = cap ∧ n ≤ c)) :
    Goes P o cx σ a w (.one v, [(d, σ.g d + 1, .row true E sz xs)]) := by
  have hsize : w'.heap.size = w.heap.size + 1 := by rw [hw]; simp
  have hold : ∀ b, b < w.heap.size → w'.heap[b]? = w.heap[b]? := fun b hb => by rw [hw, Array.getElem?_push, if_neg (by omega)]
  have hnew : w'.heap[w.heap.size]? = some (.cells cells E (0, 0)) := by rw [hw]; simp
  refine ⟨_, u, w', upd μ d (some w.heap.size), hrun, .inl rfl, ?_⟩
  refine h.turn d (σ.g d + 1) (.row true E sz xs) (some w.heap.size) w' (by omega) (fun e => by omega) (fun b hb _ => hold b hb) (h.kept.trans ⟨hos, htp, hou, by omega, fun b hb _ => hold b hb⟩) (by omega)
    (fun _ b hb => by cases hb; exact ⟨.inl (Nat.le_refl _), by omega⟩) (fun hc _ => ?_) hd (fun hc => ?_)
  · unfold RelO
    rw [upd_same]
    refine .inr ⟨w.heap.size, cells, cap, by rw [upd_same], hnew, hcs, hsz, hcap, hlen, hr.1, fun i x hi j c hj => ?_, fun e => by cases e⟩
    obtain ⟨y, h1, h2⟩ := hr.2 i x hi j c hj
    exact ⟨y, h1, hc h2⟩
  · rcases hv with ⟨rfl, rfl⟩ | ⟨n, c, rfl, rfl, rfl, hn⟩
    · refine .one _ _ (.ref (by rw [upd_same]; exact Nat.le_refl _) ⟨_, rfl⟩ fun _ => ?_) rfl
      unfold RefAt
      rw [upd_same, upd_same]
      exact ⟨_, rfl, by simp⟩
    · refine .one _ _ (.view (by rw [upd_same]; exact Nat.le_refl _) ⟨_, _, rfl⟩ fun _ => ?_) rfl
      unfold ViewAt
      rw [upd_same, upd_same]
      exact .inr (.inr ⟨_, c, cells, rfl, hnew, by rw [hcs]; simp, by simp, hn⟩)

theorem row1 {R : AC → Value → Prop} {cs : List AC} {cells : Array Value} (h : CellsRel R cs cells) : RowRel R cs.length [cs] cells := by
  refine ⟨by simp, fun i x hi j c hj => ?_⟩
  cases i with
  | zero =>
    simp at hi
    subst hi
    have hlt : j < cells.size := by rw [← h.1]; exact (List.getElem?_eq_some_iff.1 hj).1
    exact ⟨cells[j], by simp [hlt], (h.2 j c cells[j] hj (by simp [hlt])).1⟩
  | succ i => simp at hi

theorem go_alloc (h : Rel cx μ σ a w) (hd : ∀ d, o.dst = some d → d < cx.n) {e d : Nat} {i : TI} (ho : o.op = .alloc e) (hi : tinfo P e = some i) (hpos : 0 < i.size) :
    Goes P o cx σ a w (.one (.ref d (σ.g d + 1) 0 0), [(d, σ.g d + 1, .row true e i.zero.length [i.zero.map kC])]) := by
  obtain ⟨j, dd, z, h1, h2, h3, h4, h5, h6, h7, h8, h9, h10, h11⟩ := tinfo_spec hi
  have hc := h11 (cx := cx) (μ := μ) (σ := σ) (w := w)
  have hr := row1 hc
  rw [List.length_map] at hr
  refine go_new h hd (w' := w.alloc (.cells z.cells e)) (cells := z.cells) (cap := 1) rfl rfl rfl rfl (by rw [h9, h8, Nat.one_mul]) (by omega) (by omega) (by simp) hr (u := .pointer (some ⟨w.heap.size, 0, none⟩)) ?_ (.inl ⟨rfl, rfl⟩)
  have hz : (zeroValue e).run P w = .ok z w := by simp [zeroValue, typeInfo, h1, h3]
  simp only [execOp, ho, Instr.alloc, Sem.run_bind, hz, Result.andThen_ok]
  simp [newVar, newRow]

theorem go_box (h : Rel cx μ σ a w) (hd : ∀ d, o.dst = some d → d < cx.n) {e d : Nat} {x : Operand} {ax : AX} {n : Nat} (ho : o.op = .box e x) (hx : toX x = some ax) (hpos : 0 < n) {cs : List AC} (hc : cellsOf (σ.ev ax) = some cs) (hl : cs.length = n) :
    Goes P o cx σ a w (.one (.ref d (σ.g d + 1) 0 0), [(d, σ.g d + 1, .row true e n [cs])]) := by
  have hcr := cells_rel (ev_toX h hx) hc
  have hr := row1 hcr
  subst hl
  refine go_new h hd (w' := w.alloc (.cells (a.eval x).cells e)) (cells := (a.eval x).cells) (cap := 1) rfl rfl rfl rfl (by rw [← hcr.1, Nat.one_mul]) hpos (by omega) (by simp) hr (u := .pointer (some ⟨w.heap.size, 0, none⟩)) ?_ (.inl ⟨rfl, rfl⟩)
  simp [execOp, ho, Instr.box, newVar, newRow]

/-- A store. -/
theorem go_st (h : Rel cx μ σ a w) (hd : ∀ d, o.dst = some d → d < cx.n) {t : TypeId} {x y : Operand} {ax ay : AX} {i : TypeInfo} (ho : o.op = .store t x y) (hx : toX x = some ax) (hy : toX y = some ay) (hi : P.info? t = some i)
    {k q m off E sz : Nat} {xs : List (List AC)} {cs vs : List AC} (he : σ.ev ax = .one (.ref k q m off)) (hvs : cellsOf (σ.ev ay) = some vs) (hq : q = σ.g k) (hrow : σ.o k = .row true E sz xs) (hcs : xs[m]? = some cs) (hl : vs.length = i.size) (hoff : off + i.size ≤ cs.length) :
    Goes P o cx σ a w (.tup [], [(k, q, .row true E sz (xs.set m (cs.take off ++ vs ++ cs.drop (off + i.size))))]) := by
  have h1 := ev_toX h hx
  rw [he] at h1
  have hat : RefAt (σ.o k) (μ k) m off (a.eval x) := by
    cases hr : rv_one h1 with
    | ref hg hp hat => exact hat hq
  unfold RefAt at hat
  rw [hrow] at hat
  obtain ⟨b, hb, hz⟩ := hat
  have hv := cells_rel (ev_toX h hy) hvs
  have ho2 := h.obj k
  unfold RelO at ho2
  rw [hrow] at ho2
  rcases ho2 with ⟨hn, _⟩ | ⟨b', cur, cap, h3, h4, h5, h6, h7, h8, h9, h10, h11⟩
  · rw [hn] at hb; cases hb
  have hbb : b' = b := by rw [h3] at hb; exact Option.some.inj hb
  subst hbb
  have hcl : cs.length = sz := h9 cs (List.mem_of_getElem? hcs)
  have hm : m < xs.length := (List.getElem?_eq_some_iff.1 hcs).1
  have hmm : (m + 1) * sz ≤ cur.size := by rw [h5]; exact Nat.mul_le_mul_right _ (by omega)
  rw [Nat.add_mul, Nat.one_mul] at hmm
  have hvl : (a.eval y).cells.toList.length = i.size := by rw [Array.length_toList, ← hv.1, hl]
  have hst := run_storeCells_at P b' (m * sz + off) E (a.eval y).cells.toList 0 cur w h4 (by rw [hvl]; omega) (fun v hv' => by
    obtain ⟨j, hj⟩ := List.getElem?_of_mem hv'
    have hjl : j < vs.length := by rw [hv.1]; simpa using (List.getElem?_eq_some_iff.1 hj).1
    exact (hv.2 j vs[j] v (by simp [hjl]) (by simpa using hj)).2)
  simp only [Nat.add_zero] at hst
  let cur' := (cur.toList.take (m * sz + off) ++ (a.eval y).cells.toList ++ cur.toList.drop (m * sz + off + (a.eval y).cells.toList.length)).toArray
  have hcur' : cur'.size = cur.size := by
    simp only [cur', List.size_toArray, List.length_append, List.length_take, List.length_drop, hvl, Array.length_toList]
    omega
  have hget : ∀ (p : Nat), cur'[p]? = if m * sz + off ≤ p ∧ p < m * sz + off + i.size then (a.eval y).cells[p - (m * sz + off)]? else cur[p]? := fun p => by
    have := splice_get cur.toList (a.eval y).cells.toList (m * sz + off) i.size hvl (by simp; omega) p
    have hsz2 : (a.eval y).cells.size = i.size := by rw [← hv.1, hl]
    simpa [cur', hsz2] using this
  have hrun : (execOp a.eval o).run P w = .ok .skip (w.setRow b' cur') := by
    have hsz : (a.eval y).cells.size = i.size := by rw [← hv.1, hl]
    simp [execOp, ho, Instr.storeAt, hz, Instr.sureAddr, storeVar, sizeOf, typeInfo, hi, hsz, hst, cur']
  have hlv : liveO (σ.o k) = true := by rw [hrow]; rfl
  have hbw := (h.lv k b' hlv h3).2
  have hother : ∀ p, p < w.heap.size → p ≠ b' → (w.setRow b' cur').heap[p]? = w.heap[p]? := fun p _ hp => setRow_other w b' p cur' hp
  have hself : (w.setRow b' cur').heap[b']? = some (.cells cur' E (0, 0)) := setRow_heap w b' cur cur' E (0, 0) h4
  have hsize : (w.setRow b' cur').heap.size = w.heap.size := by simp [World.setRow]
  refine ⟨_, undef, _, upd μ k (some b'), hrun, .inr ⟨rfl, rfl⟩, ?_⟩
  refine h.turn k q _ (some b') _ (by omega) (fun _ => ?_) (fun p hp hne => hother p hp fun e => hne ⟨hlv, by rw [e]; exact h3⟩) ⟨h.kept.os, h.kept.tape, h.kept.output, by have := h.kept.size; omega, fun p hp hne => (hother p (Nat.lt_of_lt_of_le hp h.kept.size) fun e => ?_).trans (h.kept.block p hp hne)⟩ (by omega)
    (fun _ p hp => by cases hp; exact ⟨.inr ⟨hlv, h3⟩, by omega⟩) (fun hc _ => ?_) hd (fun hc => ?_)
  · rw [hrow]
    refine ⟨fun lo n v hva => ?_, fun i off v hr => ?_, fun _ _ => trivial, fun _ _ => trivial⟩
    · simp only [ViewAt] at hva ⊢
      rcases hva with ⟨hn, _⟩ | hva | ⟨p, c, cu, e1, e2, e3, e4⟩
      · rw [h3] at hn; cases hn
      · exact .inr (.inl hva)
      · have : p = b' := by rw [h3] at e1; exact (Option.some.inj e1).symm
        subst this
        have : cu = cur := by rw [h4] at e2; cases e2; rfl
        subst this
        exact .inr (.inr ⟨p, c, cur', rfl, hself, by rw [hcur']; exact e3, e4⟩)
    · simp only [RefAt] at hr ⊢
      rw [h3] at hr
      exact hr
  · rcases (h.lv k b' hlv h3).1 with e1 | e1
    · omega
    · exact hne (by rw [e1, e])
  · unfold RelO
    rw [upd_same]
    refine .inr ⟨b', cur', cap, by rw [upd_same], hself, by rw [hcur']; exact h5, h6, h7, by simpa using h8, ?_, ?_, fun e => by cases e⟩
    · intro x hx
      rcases List.mem_or_eq_of_mem_set hx with hx | rfl
      · exact h9 x hx
      · simp only [List.length_append, List.length_take, List.length_drop, hl]; omega
    · intro i' x hi' j c hj
      by_cases e : i' = m
      · subst e
        rw [List.getElem?_set_self hm] at hi'
        cases hi'
        rw [splice_get cs vs off i.size hl hoff] at hj
        rw [hget]
        split at hj
        · rename_i hjr
          rw [if_pos (by omega)]
          have hjl : j - off < (a.eval y).cells.size := by rw [← hv.1, hl]; omega
          refine ⟨(a.eval y).cells[j - off], ?_, hc (hv.2 (j - off) c _ hj (by simp [hjl])).1⟩
          have : i' * sz + j - (i' * sz + off) = j - off := by omega
          rw [this]; simp [hjl]
        · rename_i hjr
          rw [if_neg (by omega)]
          obtain ⟨y', hy1, hy2⟩ := h10 i' cs hcs j c hj
          exact ⟨y', hy1, hc hy2⟩
      · rw [List.getElem?_set_ne (Ne.symm e)] at hi'
        obtain ⟨y', hy1, hy2⟩ := h10 i' x hi' j c hj
        have hjl : j < sz := by rw [← h9 x (List.mem_of_getElem? hi')]; exact (List.getElem?_eq_some_iff.1 hj).1
        have hout : ¬ (m * sz + off ≤ i' * sz + j ∧ i' * sz + j < m * sz + off + i.size) := by
          rintro ⟨g1, g2⟩
          rcases Nat.lt_or_gt_of_ne e with hlt | hgt
          · have := Nat.mul_le_mul_right sz (show i' + 1 ≤ m by omega)
            rw [Nat.add_mul] at this
            omega
          · have := Nat.mul_le_mul_right sz (show m + 1 ≤ i' by omega)
            rw [Nat.add_mul] at this
            omega
        rw [hget, if_neg hout]
        exact ⟨y', hy1, hc hy2⟩
  · exact .tup _ _ rfl (by simp)

end
end Go.Proofs.Ytnpdeecoejabgaa
