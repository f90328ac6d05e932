/- THE ABSTRACT MACHINE, 9: comparisons of structs and of pointers; closures. -/
import Derived.Test.YtnpdeecoejabgaaKH
set_option linter.unusedSimpArgs false
set_option linter.unusedVariables false
namespace Go.Proofs.Ytnpdeecoejabgaa
open Go Go.RowKit

section
variable {P : Program} {o : Oper} {cx : Ctx} {μ : Nat → Option Nat} {σ : ASt} {a : Act} {w : World}

/-- Cells of pure data at values. -/
def PRel (p : List C) (vs : Array Value) : Prop := p.length = vs.size ∧ ∀ (j : Nat) (c : C) (u : Value), p[j]? = some c → vs[j]? = some u → ∃ w X, RepC w X c u

def leafEq (k : CK) (c c' : C) (v u : Value) (e : Bool) : Prop := eqCell k c c' = some e ∧ (∃ w X, RepC w X c v) ∧ (∃ w X, RepC w X c' u)

/-- The value that stands at cells off to off + n. -/
def partV (agg : Bool) (vs : Array Value) (off n : Nat) : Option Value := if agg then some (.agg (vs.extract off (off + n))) else vs[off]?

theorem leaf_bool {c : C} {v : Value} {b : Bool} (h : ∃ w X, RepC w X c v) (hc : c = .bool b) : v = .bool b := by obtain ⟨w, X, h⟩ := h; subst hc; cases h; rfl
theorem leaf_int {c : C} {v : Value} {k n} (h : ∃ w X, RepC w X c v) (hc : c = .int k n) : v = .int k n := by obtain ⟨w, X, h⟩ := h; subst hc; cases h; rfl
theorem leaf_str {c : C} {v : Value} {s} (h : ∃ w X, RepC w X c v) (hc : c = .str s) : v = .string s := by obtain ⟨w, X, h⟩ := h; subst hc; cases h; rfl

theorem eqCell_b {c c' : C} {e : Bool} (h : eqCell .b c c' = some e) : ∃ a b, c = .bool a ∧ c' = .bool b ∧ (a == b) = e := by
  cases c <;> cases c' <;> simp [eqCell] at h <;> exact ⟨_, _, rfl, rfl, h⟩
theorem eqCell_i {c c' : C} {e : Bool} (h : eqCell .i c c' = some e) : ∃ k a b, c = .int k a ∧ c' = .int k b ∧ decide (a = b) = e := by
  cases c <;> cases c' <;> simp [eqCell] at h
  obtain ⟨rfl, h⟩ := h
  exact ⟨_, _, _, rfl, rfl, h⟩
theorem eqCell_s {c c' : C} {e : Bool} (h : eqCell .s c c' = some e) : ∃ a b, c = .str a ∧ c' = .str b ∧ decide (a = b) = e := by
  cases c <;> cases c' <;> simp [eqCell] at h <;> exact ⟨_, _, rfl, rfl, h⟩

theorem eqCells_app : ∀ {ks ks' : List CK} {p p' q q' : List C} {e : Bool}, p.length = ks.length → q.length = ks.length → eqCells (ks ++ ks') (p ++ p') (q ++ q') = some e →
    ∃ e1 e2, eqCells ks p q = some e1 ∧ eqCells ks' p' q' = some e2 ∧ e = (e1 && e2)
  | [], ks', [], p', [], q', e, _, _, h => ⟨true, e, rfl, h, by simp⟩
  | k :: ks, ks', c :: p, p', d :: q, q', e, hp, hq, h => by
    simp only [List.cons_append, eqCells] at h ⊢
    cases hc : eqCell k c d with
    | none => rw [hc] at h; simp at h
    | some r =>
      rw [hc] at h
      simp only [Option.map_eq_some_iff] at h
      obtain ⟨e', h1, rfl⟩ := h
      obtain ⟨e1, e2, h2, h3, rfl⟩ := eqCells_app (by simpa using hp) (by simpa using hq) h1
      exact ⟨r && e1, e2, by simp [h2], h3, by rw [Bool.and_assoc]⟩
  | [], _, _ :: _, _, _, _, _, hp, _, _ => by simp at hp
  | [], _, [], _, _ :: _, _, _, _, hq, _ => by simp at hq
  | _ :: _, _, [], _, _, _, _, hp, _, _ => by simp at hp
  | _ :: _, _, _ :: _, _, [], _, _, _, hq, _ => by simp at hq

theorem eqCells_len : ∀ {ks : List CK} {p q : List C} {e : Bool}, eqCells ks p q = some e → p.length = ks.length ∧ q.length = ks.length
  | [], [], [], _, _ => by simp
  | k :: ks, a :: p, b :: q, e, h => by
    simp only [eqCells] at h
    split at h
    · obtain ⟨r, h1, _⟩ := Option.map_eq_some_iff.1 h
      have := eqCells_len h1
      simp [this.1, this.2]
    · simp at h
  | [], _ :: _, _, _, h => by simp [eqCells] at h
  | [], [], _ :: _, _, h => by simp [eqCells] at h
  | _ :: _, [], _, _, h => by simp [eqCells] at h
  | _ :: _, _ :: _, [], _, h => by simp [eqCells] at h

theorem part_partV {t : TypeId} {i : TypeInfo} {u : TypeDesc} (hi : P.info? t = some i) (hu : P.underlying t = some u) {vs : Array Value} {off : Nat} {v : Value} (hv : partV (isAggB u) vs off i.size = some v) :
    (part t vs off).run P w = .ok v w := by
  have hagg : (isAgg t).run P w = .ok (isAggB u) w := by
    simp only [isAgg, Sem.run_bind, run_underlying hu, Result.andThen_ok]
    cases u <;> rfl
  unfold partV at hv
  cases hb : isAggB u with
  | true => rw [hb] at hv hagg; simp only [if_true, Option.some.injEq] at hv; subst hv; simp [part, hagg, sizeOf, typeInfo, hi]
  | false => rw [hb] at hv hagg; simp only [Bool.false_eq_true, if_false] at hv; simp [part, hagg, hv]

/-- Comparing values of a type that is compared cell by cell. -/
theorem eq_plain : ∀ (d : Nat) (t : TypeId) (ks : List CK), plainT P d t = some ks → ∀ (N : Nat), d ≤ N → ∀ (u : TypeDesc), P.underlying t = some u → ∀ (p q : List C) (vs us : Array Value) (off : Nat) (v v' : Value) (e : Bool),
    PRel p vs → PRel q us → partV (isAggB u) vs off ks.length = some v → partV (isAggB u) us off ks.length = some v' → off + ks.length ≤ p.length → off + ks.length ≤ q.length →
    eqCells ks ((p.drop off).take ks.length) ((q.drop off).take ks.length) = some e → (Op.equalIn N t v v').run P w = .ok e w := by
  intro d
  induction d with
  | zero => intro t ks h; simp [plainT] at h
  | succ d ih =>
    intro t ks h N hN u hu p q vs us off v v' e hp hq hv hv' hlp hlq he
    obtain ⟨N, rfl⟩ : ∃ M, N = M + 1 := ⟨N - 1, by omega⟩
    simp only [plainT, hu] at h
    have leaf : ∀ (k : CK), ks = [k] → isAggB u = false → ∃ c c' b, p[off]? = some c ∧ q[off]? = some c' ∧ eqCell k c c' = some e ∧ (∃ w X, RepC w X c v) ∧ (∃ w X, RepC w X c' v') ∧ b = e := by
      intro k hk hb
      subst hk
      simp only [List.length_singleton] at *
      have h1 : off < p.length := by omega
      have h2 : off < q.length := by omega
      have e1 : (p.drop off).take 1 = [p[off]] := by rw [List.drop_eq_getElem_cons h1]; rfl
      have e2 : (q.drop off).take 1 = [q[off]] := by rw [List.drop_eq_getElem_cons h2]; rfl
      rw [e1, e2] at he
      simp only [eqCells] at he
      rw [hb] at hv hv'
      simp only [partV, Bool.false_eq_true, if_false] at hv hv'
      split at he
      · rename_i r hr
        simp only [Option.map_some, Bool.and_true, Option.some.injEq] at he
        subst he
        exact ⟨p[off], q[off], r, by simp [h1], by simp [h2], hr, hp.2 off _ _ (by simp [h1]) hv, hq.2 off _ _ (by simp [h2]) hv', rfl⟩
      · simp at he
    cases u with
    | bool =>
      simp only [Option.some.injEq] at h
      obtain ⟨c, c', b, _, _, hcc, hr, hr', _⟩ := leaf .b h.symm rfl
      obtain ⟨x, y, rfl, rfl, hcc'⟩ := eqCell_b hcc
      rw [leaf_bool hr rfl, leaf_bool hr' rfl, equalIn_bool N hu, hcc']
    | int k =>
      simp only [Option.some.injEq] at h
      obtain ⟨c, c', b, _, _, hcc, hr, hr', _⟩ := leaf .i h.symm rfl
      obtain ⟨kk, x, y, rfl, rfl, hcc'⟩ := eqCell_i hcc
      rw [leaf_int hr rfl, leaf_int hr' rfl, run_equalIn_int w N t _ _ _ _ hu, int_beq, hcc']
    | string =>
      simp only [Option.some.injEq] at h
      obtain ⟨c, c', b, _, _, hcc, hr, hr', _⟩ := leaf .s h.symm rfl
      obtain ⟨x, y, rfl, rfl, hcc'⟩ := eqCell_s hcc
      rw [leaf_str hr rfl, leaf_str hr' rfl, run_equalIn_string w N t _ _ hu, bytes_beq, hcc']
    | struct fs =>
      simp only at h
      split at h
      · simp at h
      rename_i hst
      have hst' : P.stoodInHeld t = false := by simpa using hst
      simp only [partV, isAggB, if_true, Option.some.injEq] at hv hv'
      subst hv; subst hv'
      have hf : P.fieldsOf t = fs := by simp [Program.fieldsOf, hu]
      rw [run_equalIn_struct w N t _ _ (by rw [hf]; exact hu) hst', hf]
      -- field by field
      have key : ∀ (l : List Field) (o0 : Nat) (kk : List CK) (e : Bool), plainFs P (plainT P d) l o0 = some kk → o0 + kk.length = ks.length →
          eqCells kk ((p.drop (off + o0)).take kk.length) ((q.drop (off + o0)).take kk.length) = some e →
          (Op.eqFields N (vs.extract off (off + ks.length)) (us.extract off (off + ks.length)) l).run P w = .ok e w := by
        intro l
        induction l with
        | nil =>
          intro o0 kk e h1 h2 h3
          simp only [plainFs, Option.some.injEq] at h1
          subst h1
          simp only [List.length_nil, List.take_zero, eqCells, Option.some.injEq] at h3
          subst h3
          simp [Op.eqFields]
        | cons f l ihl =>
          intro o0 kk e h1 h2 h3
          simp only [plainFs] at h1
          split at h1
          · rename_i k1 i uu hk1 hii huu
            split at h1
            · rename_i hcond
              simp only [Option.map_eq_some_iff] at h1
              obtain ⟨k2, h4, rfl⟩ := h1
              simp only [Bool.and_eq_true, beq_iff_eq, bne_iff_ne, ne_eq, Bool.or_eq_true] at hcond
              obtain ⟨⟨⟨hoff, hname⟩, hsize⟩, hag⟩ := hcond
              simp only [List.length_append] at h2 h3
              have lp : off + o0 + (k1.length + k2.length) ≤ p.length := by omega
              have lq : off + o0 + (k1.length + k2.length) ≤ q.length := by omega
              have sp : (p.drop (off + o0)).take (k1.length + k2.length) = (p.drop (off + o0)).take k1.length ++ (p.drop (off + (o0 + k1.length))).take k2.length := by
                rw [List.take_add, List.drop_drop]; simp [Nat.add_assoc]
              have sq : (q.drop (off + o0)).take (k1.length + k2.length) = (q.drop (off + o0)).take k1.length ++ (q.drop (off + (o0 + k1.length))).take k2.length := by
                rw [List.take_add, List.drop_drop]; simp [Nat.add_assoc]
              rw [sp, sq] at h3
              obtain ⟨e1, e2, h5, h6, rfl⟩ := eqCells_app (by simp; omega) (by simp; omega) h3
              have hvs : vs.size = p.length := hp.1.symm
              have hus : us.size = q.length := hq.1.symm
              have getv : ∀ (A : Array Value) (L : Nat), A.size = L → off + o0 + k1.length ≤ L → off + ks.length ≤ L → ∃ v0, partV (isAggB uu) (A.extract off (off + ks.length)) f.offset i.size = some v0 ∧ partV (isAggB uu) A (off + o0) k1.length = some v0 := by
                intro A L hA hL hL2
                subst hoff
                unfold partV
                cases hb : isAggB uu with
                | true =>
                  refine ⟨_, rfl, ?_⟩
                  rw [hsize]
                  simp only [if_true, Option.some.injEq, Value.agg.injEq]
                  rw [Array.extract_extract]
                  congr 1
                  omega
                | false =>
                  rw [hb] at hag
                  have hk11 : k1.length = 1 := by simpa using hag
                  simp only [Bool.false_eq_true, if_false]
                  refine ⟨A[off + f.offset]'(by omega), ?_, by simp⟩
                  rw [Array.getElem?_extract]
                  have : f.offset < min (off + ks.length) A.size - off := by omega
                  rw [if_pos this]
                  simp
              obtain ⟨v1, hv1, hv1'⟩ := getv vs p.length hvs (by omega) (by omega)
              obtain ⟨v2, hv2, hv2'⟩ := getv us q.length hus (by omega) (by omega)
              have hrec := ih f.type k1 hk1 N (by omega) uu huu p q vs us (off + o0) v1 v2 e1 hp hq hv1' hv2' (by omega) (by omega) h5
              have hnext := ihl (o0 + k1.length) k2 e2 h4 (by omega) h6
              simp only [Op.eqFields, hname, ne_eq, not_false_eq_true, if_true, Sem.run_bind, part_partV hii huu hv1, part_partV hii huu hv2, Result.andThen_ok, hrec]
              cases e1
              · simp
              · simp [hnext]
            · simp at h1
          · simp at h1
      have := key fs.toList 0 ks e h (by omega) (by simpa using he)
      exact this
    | _ => simp at h


theorem pureCells_spec : ∀ {cs : List AC} {p : List C}, pureCells cs = some p → cs = dm p
  | [], p, h => by simp [pureCells, allSome] at h; subst h; rfl
  | c :: cs, p, h => by
    simp only [pureCells, List.map_cons] at h
    cases hc : pureCell c with
    | none => rw [hc] at h; simp [allSome] at h
    | some x =>
      rw [hc] at h
      simp only [allSome, Option.map_eq_some_iff] at h
      obtain ⟨r, h1, rfl⟩ := h
      have h2 := pureCells_spec (cs := cs) (p := r) h1
      subst h2
      unfold pureCell at hc
      split at hc <;> simp at hc
      subst hc
      rfl

theorem prel_of {p : List C} {vs : Array Value} {g o μ w X} (h : CellsRel (RelC g o μ w X) (dm p) vs) : PRel p vs := by
  refine ⟨by simpa using h.1, fun j c u h1 h2 => ?_⟩
  have := (h.2 j (.d c) u (by simp [h1]) h2).1
  cases this with | d hr => exact ⟨_, _, hr⟩

theorem go_eqs (h : Rel cx μ σ a w) (hd : ∀ d, o.dst = some d → d < cx.n) {op : BinOp} {t t' : TypeId} {x y : Operand} {ax ay : AX} {ks : List CK} (ho : o.op = .binOp op t x y t') (hx : toX x = some ax) (hy : toX y = some ay)
    (hagg : ∃ u, P.underlying t = some u ∧ isAggB u = true) (hk : plainT P 8 t = some ks) (hg : P.eqGuardType P.depth t = false) {neg : Bool} (hop : op = if neg then .neq else .eql)
    {cs ds : List AC} (hc : σ.ev ax = .agg cs) (hds : σ.ev ay = .agg ds) {p q : List C} (hp : pureCells cs = some p) (hq : pureCells ds = some q) {e : Bool} (he : eqCells ks p q = some e) :
    Goes P o cx σ a w (.one (.d (.bool (if neg then !e else e))), []) := by
  have h1 := ev_toX h hx
  have h2 := ev_toX h hy
  rw [hc] at h1
  rw [hds] at h2
  have hp' := pureCells_spec hp
  have hq' := pureCells_spec hq
  subst hp'; subst hq'
  obtain ⟨vs, h3, h4, h5⟩ := rv_agg h1
  obtain ⟨us, h6, h7, h8⟩ := rv_agg h2
  obtain ⟨u, hu, hag⟩ := hagg
  have hlen := eqCells_len he
  have hvs := prel_of (p := p) ⟨h4, h5⟩
  have hus := prel_of (p := q) ⟨h7, h8⟩
  have key := eq_plain (P := P) (w := w) 8 t ks hk 10000 (by omega) u hu p q vs us 0 (.agg vs) (.agg us) e hvs hus
    (by simp [partV, hag, ← hlen.1, hvs.1]) (by simp [partV, hag, ← hlen.2, hus.1]) (by omega) (by omega) (by
      rw [List.drop_zero, List.drop_zero, List.take_of_length_le (by omega), List.take_of_length_le (by omega)]; exact he)
  have hgd := run_eqGuard_agg w op t x y vs us hg
  refine goes_val h hd ?_ rbool
  cases neg
  · simp only [Bool.false_eq_true, if_false] at hop ⊢
    subst hop
    simp only [execOp, ho, h3, h6, Sem.run_bind, hgd, Result.andThen_ok, run_eql_struct, key, Sem.run_pure]
  · simp only [if_true] at hop ⊢
    subst hop
    simp only [execOp, ho, h3, h6, Sem.run_bind, hgd, Result.andThen_ok, run_neq_struct, key, Sem.run_pure]

theorem go_mkf (h : Rel cx μ σ a w) (hd : ∀ d, o.dst = some d → d < cx.n) {f : Nat} {first cs : Array Operand} (ho : o.op = .makeFunc (.func f) first cs) (hf : first = #[]) {l : List AX} (hl : compArgs cs = some l)
    {r : List AC} (hr : l.map σ.ev = r.map .one) : Goes P o cx σ a w (.one (.fn f r), []) := by
  subst hf
  have hl' := compArgs_spec hl
  have hlen : cs.size = l.length := by simpa using congrArg List.length hl'
  have hlen2 : l.length = r.length := by simpa using congrArg List.length hr
  have hev : ∀ (j : Nat) (c : AC), r[j]? = some c → RCl cx μ σ w c (a.eval (cs.getD j default)) := by
    intro j c hj
    have hjl : j < r.length := (List.getElem?_eq_some_iff.1 hj).1
    have h1 : (l.map σ.ev)[j]? = some (.one c) := by rw [hr]; simp [hj]
    rw [List.getElem?_map] at h1
    cases hlj : l[j]? with
    | none => rw [hlj] at h1; cases h1
    | some ax =>
      rw [hlj] at h1
      simp only [Option.map_some, Option.some.injEq] at h1
      have h2 : (cs.toList.map toX)[j]? = some (some ax) := by rw [hl']; simp [hlj]
      rw [List.getElem?_map] at h2
      cases hcj : cs.toList[j]? with
      | none => rw [hcj] at h2; cases h2
      | some x =>
        rw [hcj] at h2
        simp only [Option.map_some, Option.some.injEq] at h2
        have h3 := ev_toX h h2
        rw [h1] at h3
        have h4 : cs.getD j default = x := by
          have : cs[j]? = some x := by simpa using hcj
          simp [this]
        rw [h4]
        exact rv_one h3
  refine goes_val h hd (u := .func (.func f) #[] (cs.map a.eval)) (by simp [execOp, ho, Instr.makeFunc]) (.one _ _ (.fn (fun j => a.eval (cs.getD j default)) (by simp [hlen, hlen2]) (fun j c hj => ?_) hev) rfl)
  have hjl : j < cs.size := by rw [hlen, hlen2]; exact (List.getElem?_eq_some_iff.1 hj).1
  simp [hjl]

theorem sameAddr_nil {e : TypeId} : True := trivial

/-- A pointer against nil. -/
theorem go_eqp (h : Rel cx μ σ a w) (hd : ∀ d, o.dst = some d → d < cx.n) {op : BinOp} {t t' e : TypeId} {x y : Operand} {ax ay : AX} (ho : o.op = .binOp op t x y t') (hx : toX x = some ax) (hy : toX y = some ay)
    (ht : P.underlying t = some (.pointer e)) {neg : Bool} (hop : op = if neg then .neq else .eql) {r : Bool}
    (hv : (σ.ev ax = .one (.d .nilp) ∧ σ.ev ay = .one (.d .nilp) ∧ r = true) ∨ (σ.ev ax = .one (.d .nilp) ∧ ((∃ k q i n, σ.ev ay = .one (.ref k q i n)) ∨ ∃ cs, σ.ev ay = .one (.d (.ptr cs))) ∧ r = false) ∨
      (((∃ k q i n, σ.ev ax = .one (.ref k q i n)) ∨ ∃ cs, σ.ev ax = .one (.d (.ptr cs))) ∧ σ.ev ay = .one (.d .nilp) ∧ r = false)) :
    Goes P o cx σ a w (.one (.d (.bool (if neg then !r else r))), []) := by
  have nil : ∀ {z : Operand} {az : AX}, toX z = some az → σ.ev az = .one (.d .nilp) → a.eval z = .pointer none := fun {z az} hz he => by
    have h1 := ev_toX h hz
    rw [he] at h1
    generalize a.eval z = u at h1
    cases rv_one h1 with | d h2 => cases h2; rfl
  have ptr : ∀ {z : Operand} {az : AX}, toX z = some az → ((∃ k q i n, σ.ev az = .one (.ref k q i n)) ∨ ∃ cs, σ.ev az = .one (.d (.ptr cs))) → ∃ ad, a.eval z = .pointer (some ad) := fun {z az} hz he => by
    have h1 := ev_toX h hz
    rcases he with ⟨k, q, i, n, he⟩ | ⟨cs, he⟩
    · rw [he] at h1; exact ref_at (rv_one h1)
    · rw [he] at h1
      cases rv_one h1 with | d h2 => obtain ⟨ad, h3, _⟩ := ptr_drop h2 0; exact ⟨ad, h3⟩
  have key : ∀ u v, a.eval x = u → a.eval y = v → (∃ b, u = .pointer b) → (Op.equal t u v).run P w = .ok r w → Goes P o cx σ a w (.one (.d (.bool (if neg then !r else r))), []) := by
    rintro u v e1 e2 ⟨b, rfl⟩ hr
    refine goes_val h hd ?_ rbool
    cases neg
    · simp only [Bool.false_eq_true, if_false] at hop ⊢
      subst hop
      simp only [execOp, ho, e1, e2, eqGuard_at_pointer, Go.binOp, Sem.run_bind, hr, Sem.run_pure, Result.andThen_ok]
    · simp only [if_true] at hop ⊢
      subst hop
      simp only [execOp, ho, e1, e2, eqGuard_at_pointer, Go.binOp, Sem.run_bind, hr, Sem.run_pure, Result.andThen_ok]
  have eqn : ∀ (N : Nat) (b c : Option Addr), (b = none ∨ c = none) → (Op.equalIn (N + 1) t (.pointer b) (.pointer c)).run P w = .ok (decide (b = none ∧ c = none)) w := by
    intro N b c hbc
    rcases hbc with rfl | rfl
    · cases c <;> simp [Op.equalIn, run_underlying ht]
    · cases b <;> simp [Op.equalIn, run_underlying ht]
  rcases hv with ⟨e1, e2, rfl⟩ | ⟨e1, e2, rfl⟩ | ⟨e1, e2, rfl⟩
  · exact key _ _ (nil hx e1) (nil hy e2) ⟨_, rfl⟩ ((eqn 9999 none none (.inl rfl)).trans (by simp))
  · obtain ⟨ad, h3⟩ := ptr hy e2
    exact key _ _ (nil hx e1) h3 ⟨_, rfl⟩ ((eqn 9999 none (some ad) (.inl rfl)).trans (by simp))
  · obtain ⟨ad, h3⟩ := ptr hx e1
    exact key _ _ h3 (nil hy e2) ⟨_, rfl⟩ ((eqn 9999 (some ad) none (.inr rfl)).trans (by simp))

end
end Go.Proofs.Ytnpdeecoejabgaa
