/- THE ABSTRACT MACHINE, 14c: keys of maps. -/
import Derived.Test.YtnpdeecoejabgaaKM
import Derived.Laws.StructEq
set_option linter.unusedSimpArgs false
set_option linter.unusedVariables false
namespace Go.Proofs.Ytnpdeecoejabgaa
open Go Go.RowKit

section
variable {P : Program} {o : Oper} {cx : Ctx} {μ : Nat → Option Nat} {σ : ASt} {a : Act} {w : World}

theorem forIn_unit {α : Type} (l : List α) (f : α → PUnit → Sem (ForInStep PUnit)) (h : ∀ x ∈ l, (f x ⟨⟩).run P w = .ok (.yield ⟨⟩) w) : (forIn l PUnit.unit f).run P w = .ok ⟨⟩ w := by
  induction l with
  | nil => simp
  | cons x l ih =>
    rw [List.forIn_cons]
    simp only [Sem.run_bind, h x (by simp), Result.andThen_ok]
    exact ih fun y hy => h y (by simp [hy])

theorem check_plain (em : Bool) : ∀ (d : Nat) (t : TypeId) (ks : List CK), plainT P d t = some ks → ∀ (N : Nat), d ≤ N → ∀ (u : TypeDesc), P.underlying t = some u → ∀ (vs : Array Value) (off : Nat) (v : Value),
    partV (isAggB u) vs off ks.length = some v → off + ks.length ≤ vs.size → (Instr.checkKey em N t v).run P w = .ok () w := by
  intro d
  induction d with
  | zero => intro t ks h; simp [plainT] at h
  | succ d ih =>
    intro t ks h N hN u hu vs off v hv hl
    obtain ⟨N, rfl⟩ : ∃ M, N = M + 1 := ⟨N - 1, by omega⟩
    simp only [plainT, hu] at h
    unfold Instr.checkKey
    simp only [Sem.run_bind, run_underlying hu, Result.andThen_ok]
    cases u with
    | bool => simp
    | int k => simp
    | string => simp
    | struct fs =>
      simp only at h
      split at h
      · simp at h
      simp only [partV, isAggB, if_true, Option.some.injEq] at hv
      subst hv
      have key : ∀ (l : List Field) (o0 : Nat) (kk : List CK), plainFs P (plainT P d) l o0 = some kk → o0 + kk.length ≤ ks.length →
          ∀ f ∈ l, f.name ≠ "_" ∧ ∃ x, (part f.type (vs.extract off (off + ks.length)) f.offset).run P w = .ok x w ∧ (Instr.checkKey em N f.type x).run P w = .ok () w := by
        intro l
        induction l with
        | nil => intro _ _ _ _ f hf; cases hf
        | cons f l ihl =>
          intro o0 kk h1 h2 g hg
          simp only [plainFs] at h1
          split at h1
          · rename_i k1 i uu hk1 hii huu
            split at h1
            · rename_i hcond
              simp only [Option.map_eq_some_iff] at h1
              obtain ⟨k2, h4, rfl⟩ := h1
              simp only [Bool.and_eq_true, beq_iff_eq, bne_iff_ne, ne_eq, Bool.or_eq_true] at hcond
              obtain ⟨⟨⟨hoff, hname⟩, hsize⟩, hag⟩ := hcond
              simp only [List.length_append] at h2
              rcases List.mem_cons.1 hg with rfl | hg
              · refine ⟨hname, ?_⟩
                have hex : ∃ v0, partV (isAggB uu) (vs.extract off (off + ks.length)) g.offset i.size = some v0 := by
                  unfold partV
                  cases hb : isAggB uu with
                  | true => exact ⟨_, rfl⟩
                  | false =>
                    rw [hb] at hag
                    have hk11 : k1.length = 1 := by simpa using hag
                    have : g.offset < (vs.extract off (off + ks.length)).size := by rw [Array.size_extract]; omega
                    exact ⟨(vs.extract off (off + ks.length))[g.offset], by simp only [Bool.false_eq_true, if_false]; exact Array.getElem?_eq_getElem this⟩
                obtain ⟨v0, hv0⟩ := hex
                refine ⟨v0, part_partV hii huu hv0, ih g.type k1 hk1 N (by omega) uu huu (vs.extract off (off + ks.length)) g.offset v0 (by rw [← hsize]; exact hv0) (by rw [Array.size_extract]; omega)⟩
              · exact ihl (o0 + k1.length) k2 h4 (by omega) g hg
            · simp at h1
          · simp at h1
      have hall := key fs.toList 0 ks h (by omega)
      simp only
      rw [← Array.forIn_toList]
      simp only [Sem.run_bind]
      rw [forIn_unit (P := P) (w := w) fs.toList _ fun f hf => ?_]
      · simp
      obtain ⟨h1, x, h2, h3⟩ := hall f hf
      simp [h1, h2, h3]
    | _ => simp at h

/-- A value, and the cells that it is made of. -/
def KeyRel (u : TypeDesc) (p : List C) (v : Value) : Prop := (isAggB u = true ∧ ∃ vs, v = .agg vs ∧ PRel p vs) ∨ (isAggB u = false ∧ ∃ c, p = [c] ∧ (∃ w X, RepC w X c v) ∧ isAggVal v = false)

theorem KeyRel.part {u : TypeDesc} {p : List C} {v : Value} (h : KeyRel u p v) {n : Nat} (hn : n = p.length) : ∃ vs, PRel p vs ∧ partV (isAggB u) vs 0 n = some v := by
  subst hn
  rcases h with ⟨h1, vs, rfl, h2⟩ | ⟨h1, c, rfl, h2, _⟩
  · refine ⟨vs, h2, ?_⟩
    simp [partV, h1, h2.1]
  · refine ⟨#[v], ⟨rfl, fun j c' u hj hu => ?_⟩, by simp [partV, h1]⟩
    cases j with
    | zero => simp at hj hu; subst hj; subst hu; exact h2
    | succ j => simp at hj

theorem plain_len {t : TypeId} {ks : List CK} (h : plainT P 8 t = some ks) {u : TypeDesc} (hu : P.underlying t = some u) (hb : isAggB u = false) : ks.length = 1 := by
  simp only [plainT, hu] at h
  cases u <;> simp [isAggB] at hb h <;> (subst h; rfl)

/-- Two keys are compared. -/
theorem key_eq {t : TypeId} {ks : List CK} (hk : plainT P 8 t = some ks) {u : TypeDesc} (hu : P.underlying t = some u) {p q : List C} {v v' : Value} (hp : KeyRel u p v) (hq : KeyRel u q v') {e : Bool} (he : eqCells ks p q = some e) :
    (Op.equal t v v').run P w = .ok e w := by
  obtain ⟨h1, h2⟩ := eqCells_len he
  obtain ⟨vs, h3, h4⟩ := hp.part h1.symm
  obtain ⟨us, h5, h6⟩ := hq.part h2.symm
  exact eq_plain (P := P) (w := w) 8 t ks hk 10000 (by omega) u hu p q vs us 0 v v' e h3 h5 h4 h6 (by omega) (by omega) (by
    rw [List.drop_zero, List.drop_zero, List.take_of_length_le (by omega), List.take_of_length_le (by omega)]; exact he)

theorem same_now {t : TypeId} {ks : List CK} (hk : plainT P 8 t = some ks) {u : TypeDesc} (hu : P.underlying t = some u) {p q : List C} {v v' : Value} (hp : KeyRel u p v) (hq : KeyRel u q v') {e : Bool} (he : eqCells ks p q = some e) :
    Instr.sameNow u v v' = none ∨ Instr.sameNow u v v' = some e := by
  simp only [plainT, hu] at hk
  have leaf : ∀ (k : CK), ks = [k] → isAggB u = false → ∃ c c', eqCell k c c' = some e ∧ (∃ w X, RepC w X c v) ∧ (∃ w X, RepC w X c' v') := by
    intro k hks hb
    subst hks
    rcases hp with ⟨h1, _⟩ | ⟨_, c, rfl, h2, _⟩
    · rw [hb] at h1; cases h1
    rcases hq with ⟨h1, _⟩ | ⟨_, c', rfl, h3, _⟩
    · rw [hb] at h1; cases h1
    refine ⟨c, c', ?_, h2, h3⟩
    simp only [eqCells] at he
    split at he
    · rename_i r hr
      simp only [Option.map_some, Bool.and_true, Option.some.injEq] at he
      subst he; exact hr
    · cases he
  cases u with
  | bool =>
    simp only [Option.some.injEq] at hk
    obtain ⟨c, c', h1, h2, h3⟩ := leaf .b hk.symm rfl
    obtain ⟨a, b, rfl, rfl, rfl⟩ := eqCell_b h1
    rw [leaf_bool h2 rfl, leaf_bool h3 rfl]
    exact .inr rfl
  | int k =>
    simp only [Option.some.injEq] at hk
    obtain ⟨c, c', h1, h2, h3⟩ := leaf .i hk.symm rfl
    obtain ⟨k', a, b, rfl, rfl, rfl⟩ := eqCell_i h1
    rw [leaf_int h2 rfl, leaf_int h3 rfl]
    refine .inr ?_
    simp [Instr.sameNow, int_beq]
  | string =>
    simp only [Option.some.injEq] at hk
    obtain ⟨c, c', h1, h2, h3⟩ := leaf .s hk.symm rfl
    obtain ⟨a, b, rfl, rfl, rfl⟩ := eqCell_s h1
    rw [leaf_str h2 rfl, leaf_str h3 rfl]
    refine .inr ?_
    simp only [Instr.sameNow, beq_toListBytes, bytes_beq]
  | struct fs => exact .inl (by cases v <;> cases v' <;> rfl)
  | _ => simp at hk

/-- What was found, at the model's entries. -/
def FoundAt (l : List MapEntry) (n : Nat) : Option (Nat × List C) → Option (Nat × Value) → Prop
  | none, r => r = none
  | some (i, _), r => ∃ m, l[i]? = some m ∧ r = some (n + i, m.val)

theorem find_run {t : TypeId} {ks : List CK} (hk : plainT P 8 t = some ks) {u : TypeDesc} (hu : P.underlying t = some u) {p : List C} {v : Value} (hp : KeyRel u p v) : ∀ (es : List (List C × List C)) (l : List MapEntry) (n : Nat) (r : Option (Nat × List C)), es.length = l.length →
    (∀ (i : Nat) (e : List C × List C) (m : MapEntry), es[i]? = some e → l[i]? = some m → KeyRel u e.1 m.key) → findE ks p es = some r →
      ∃ r', FoundAt l n r r' ∧ (Instr.findAsking t v l n).run P w = .ok r' w ∧ (Instr.findNow u v l n = none ∨ Instr.findNow u v l n = some r')
  | [], [], n, r, _, _, hf => by
    simp only [findE, Option.some.injEq] at hf
    subst hf
    exact ⟨none, rfl, by simp [Instr.findAsking], .inr rfl⟩
  | [], _ :: _, _, _, hl, _, _ => by simp at hl
  | _ :: _, [], _, _, hl, _, _ => by simp at hl
  | (k', x) :: es, m :: l, n, r, hl, hr, hf => by
    have h0 := hr 0 (k', x) m rfl rfl
    simp only [findE] at hf
    split at hf
    · rename_i he
      simp only [Option.some.injEq] at hf
      subst hf
      have h1 := key_eq (w := w) hk hu hp h0 he
      have h2 := same_now hk hu hp h0 he
      refine ⟨some (n, m.val), ⟨m, rfl, rfl⟩, by simp [Instr.findAsking, h1], ?_⟩
      rcases h2 with h2 | h2
      · exact .inl (by simp [Instr.findNow, h2])
      · exact .inr (by simp [Instr.findNow, h2])
    · rename_i he
      have h1 := key_eq (w := w) hk hu hp h0 he
      have h2 := same_now hk hu hp h0 he
      have hrec : ∀ r0, findE ks p es = some r0 → ∃ r', FoundAt l (n + 1) r0 r' ∧ (Instr.findAsking t v l (n + 1)).run P w = .ok r' w ∧ (Instr.findNow u v l (n + 1) = none ∨ Instr.findNow u v l (n + 1) = some r') := fun r0 h0 =>
        find_run hk hu hp es l (n + 1) r0 (by simpa using hl) (fun i e m he hm => hr (i + 1) e m (by simpa using he) (by simpa using hm)) h0
      have lift : ∀ r0, findE ks p es = some r0 → ∀ rr, (∀ r', FoundAt l (n + 1) r0 r' → FoundAt (m :: l) n rr r') → ∃ r', FoundAt (m :: l) n rr r' ∧ (Instr.findAsking t v (m :: l) n).run P w = .ok r' w ∧ (Instr.findNow u v (m :: l) n = none ∨ Instr.findNow u v (m :: l) n = some r') := by
        intro r0 h0' rr hrr
        obtain ⟨r', e1, e2, e3⟩ := hrec r0 h0'
        refine ⟨r', hrr r' e1, by simp [Instr.findAsking, h1, e2], ?_⟩
        rcases h2 with h2 | h2
        · exact .inl (by simp [Instr.findNow, h2])
        · rcases e3 with e3 | e3
          · exact .inl (by simp [Instr.findNow, h2, e3])
          · exact .inr (by simp [Instr.findNow, h2, e3])
      split at hf
      · rename_i i y hy
        simp only [Option.some.injEq] at hf
        subst hf
        refine lift _ hy _ fun r' ⟨m', e1, e2⟩ => ⟨m', by simpa using e1, by rw [e2]; congr 2; omega⟩
      · rename_i hy
        simp only [Option.some.injEq] at hf
        subst hf
        exact lift _ hy _ fun r' h => h
      · cases hf
    · cases hf

theorem findKey_run {t : TypeId} {ks : List CK} (hk : plainT P 8 t = some ks) {u : TypeDesc} (hu : P.underlying t = some u) {p : List C} {v : Value} (hp : KeyRel u p v) {es : List (List C × List C)} {l : List MapEntry} {r : Option (Nat × List C)} (hl : es.length = l.length)
    (hr : ∀ (i : Nat) (e : List C × List C) (m : MapEntry), es[i]? = some e → l[i]? = some m → KeyRel u e.1 m.key) (hf : findE ks p es = some r) : ∃ r', FoundAt l 0 r r' ∧ (Instr.findKey t v l).run P w = .ok r' w := by
  obtain ⟨r', h1, h2, h3⟩ := find_run (w := w) hk hu hp es l 0 r hl hr hf
  refine ⟨r', h1, ?_⟩
  rcases h3 with h3 | h3
  · simp [Instr.findKey, run_underlying hu, h3, h2]
  · simp [Instr.findKey, run_underlying hu, h3]

theorem findE_get {ks : List CK} {p : List C} : ∀ {es : List (List C × List C)} {i : Nat} {x : List C}, findE ks p es = some (some (i, x)) → ∃ k', es[i]? = some (k', x) ∧ eqCells ks p k' = some true
  | [], i, x, h => by simp [findE] at h
  | (k', y) :: es, i, x, h => by
    simp only [findE] at h
    split at h
    · rename_i he
      simp only [Option.some.injEq, Prod.mk.injEq] at h
      obtain ⟨rfl, rfl⟩ := h
      exact ⟨k', rfl, he⟩
    · split at h
      · rename_i i' y' hy
        simp only [Option.some.injEq, Prod.mk.injEq] at h
        obtain ⟨rfl, rfl⟩ := h
        obtain ⟨k2, h1, h2⟩ := findE_get hy
        exact ⟨k2, by simpa using h1, h2⟩
      · cases h
      · cases h
    · cases h

theorem mapKeys {X : Nat → Prop} {ka va : Bool} {es : List (List C × List C)} {me : Array MapEntry} {clock : Nat} (h : MapRel w X ka va es me clock) {u : TypeDesc} (hu : ka = isAggB u ∨ es = []) : ∀ (i : Nat) (e : List C × List C) (m : MapEntry), es[i]? = some e → me.toList[i]? = some m → KeyRel u e.1 m.key := by
  intro i e m he hm
  rw [Array.getElem?_toList] at hm
  obtain ⟨h1, h2, h3, h4⟩ := h.key i e m he hm
  have hka : ka = isAggB u := hu.resolve_right fun e' => by subst e'; simp at he
  subst hka
  cases hb : isAggB u with
  | true =>
    rw [hb] at h1
    cases hk : m.key with
    | agg vs =>
      rw [hk] at h2 h4
      exact .inl ⟨hb, vs, rfl, h2.symm, fun j c x hj hx => ⟨_, _, h4 j c x hj hx⟩⟩
    | _ => rw [hk] at h1; simp [isAggVal] at h1
  | false =>
    rw [hb] at h1 h3
    have hlen := h3 rfl
    match hel : e.1, hlen with
    | [c], _ =>
      refine .inr ⟨hb, c, rfl, ⟨w, X, ?_⟩, h1⟩
      have hcells : m.key.cells = #[m.key] := by cases hk : m.key <;> rw [hk] at h1 <;> first | rfl | simp [isAggVal] at h1
      exact h4 0 c m.key (by rw [hel]; rfl) (by rw [hcells]; rfl)

/-- A key, as an operand. -/
theorem key_of {x : AV} {v : Value} (hv : RV cx μ σ w x v) {kc : List C} (hc : (cellsOf x).bind pureCells = some kc) {u : TypeDesc} (hu : isAggV x = isAggB u) : KeyRel u kc v ∧ CellsRel (RCl cx μ σ w) (dm kc) v.cells ∧ isAggVal v = isAggV x ∧ (isAggV x = false → kc.length = 1) := by
  obtain ⟨cs, h1, h2⟩ := bind_some' hc
  have hp := pureCells_spec h2
  subst hp
  have hcr := cells_rel hv h1
  cases hv with
  | any v => cases h1
  | tup _ _ _ _ => cases h1
  | one c v hr h1' =>
    simp only [cellsOf, Option.some.injEq] at h1
    have hl : kc.length = 1 := by have := congrArg List.length h1; simpa using this.symm
    match kc, hl with
    | [y], _ =>
      simp only [List.map_cons, List.map_nil, List.cons.injEq, and_true] at h1
      subst h1
      have hna : isAggVal v = false := by cases v <;> first | rfl | (simp [Value.oneCell'] at h1')
      refine ⟨.inr ⟨hu.symm, y, rfl, ?_, hna⟩, hcr, hna, fun _ => rfl⟩
      cases hr with | d h3 => exact ⟨_, _, h3⟩
  | agg as vs hl ha =>
    simp only [cellsOf, Option.some.injEq] at h1
    subst h1
    exact ⟨.inl ⟨hu.symm, vs, rfl, prel_of hcr⟩, hcr, rfl, fun h => by simp [isAggV] at h⟩

theorem zval_rel {e : Nat} {i : TI} (hi : tinfo P e = some i) : ∃ z, (zeroValue e).run P w = .ok z w ∧ RV cx μ σ w (zval i.agg i.zero) z := by
  obtain ⟨j, d, z, h1, h2, h3, h4, h5, h6, h7, h8, h9, h10, h11⟩ := tinfo_spec hi
  have hc := h11 (cx := cx) (μ := μ) (σ := σ) (w := w)
  refine ⟨z, by simp [zeroValue, typeInfo, h1, h3], ?_⟩
  cases ha : i.agg with
  | true =>
    rw [ha] at h7
    cases z with
    | agg vs => cases hz : i.zero <;> (rw [hz] at hc; exact .agg _ _ hc.1 hc.2)
    | _ => simp [isAggVal] at h7
  | false =>
    rw [ha] at h7
    have hs := h10 ha
    match hz : i.zero, (h8.trans hs) with
    | [k], _ =>
      rw [hz] at hc
      have hcells : z.cells = #[z] := by cases z <;> first | rfl | (simp [isAggVal] at h7)
      rw [hcells] at hc
      obtain ⟨e1, e2⟩ := hc.2 0 (kC k) z rfl rfl
      exact .one _ _ e1 e2

theorem go_lkp (h : Rel cx μ σ a w) (hd : ∀ d, o.dst = some d → d < cx.n) {t kt e : TypeId} {x y : Operand} {ok : Bool} {ax ay : AX} (ho : o.op = .lookup t x y ok) (ht : P.underlying t = some (.map kt e)) (hx : toX x = some ax) (hy : toX y = some ay) {i : TI} (hi : tinfo P e = some i)
    {ks : List CK} (hk : plainT P 8 kt = some ks) {u : TypeDesc} (hu : P.underlying kt = some u) {ka va : Bool} {es : List (List C × List C)} (hm : mapOf σ (σ.ev ax) = some (ka, va, es)) {kc : List C} (hkc : (cellsOf (σ.ev ay)).bind pureCells = some kc)
    (hag : isAggV (σ.ev ay) = isAggB u) (hlen : kc.length = ks.length) (hfit : (ka = isAggB u ∧ va = i.agg) ∨ es = []) {r : Option (Nat × List C)} (hf : findE ks kc es = some r) {v : AV} (hv : (∃ j y, r = some (j, y) ∧ toVal i.agg (dm y) = some v) ∨ (r = none ∧ v = zval i.agg i.zero)) :
    Goes P o cx σ a w (if ok then .tup [v, .one (.d (.bool r.isSome))] else v, []) := by
  have h1 := ev_toX h hx
  have h2 := ev_toX h hy
  obtain ⟨k1, k2, _, _⟩ := key_of h2 hkc hag
  obtain ⟨z, hz, hzr⟩ := zval_rel (P := P) (cx := cx) (μ := μ) (σ := σ) (w := w) hi
  have hchk : ∀ em, (Instr.checkKey em 10000 kt (a.eval y)).run P w = .ok () w := fun em => by
    obtain ⟨vs, p1, p2⟩ := k1.part rfl
    exact check_plain em 8 kt ks hk 10000 (by omega) u hu vs 0 _ (by rw [← hlen]; exact p2) (by rw [← hlen, p1.1]; omega)
  have hpair : ∀ {b : Bool} {v : AV} {u : Value}, RV cx μ σ w v u → RV cx μ σ w (if ok then .tup [v, .one (.d (.bool b))] else v) (if ok then .tuple #[u, .bool b] else u) := fun {b v u} hvu => by
    cases ok
    · exact hvu
    · refine .tup _ _ rfl fun j a' v' h1' h2' => ?_
      match j with
      | 0 => simp at h1' h2'; subst h1'; subst h2'; exact hvu
      | 1 => simp at h1' h2'; subst h1'; subst h2'; exact rbool
      | j + 2 => simp at h1'
  rcases map_at h h1 hm with ⟨hvx, rfl⟩ | ⟨b, me, clock, hvx, hh, hr⟩
  · simp only [findE, Option.some.injEq] at hf
    subst hf
    rcases hv with ⟨_, _, e1, _⟩ | ⟨_, rfl⟩
    · cases e1
    obtain ⟨r', hr', hrun⟩ := findKey_run (P := P) (w := w) hk hu k1 (es := []) (l := []) (r := none) rfl (by simp) rfl
    cases hr'
    refine goes_val h hd (u := if ok then .tuple #[z, .bool false] else z) ?_ (hpair hzr)
    simp [execOp, ho, Instr.lookup, hvx, run_underlying ht, hchk, hrun, hz]
  · obtain ⟨r', hr', hrun⟩ := findKey_run (w := w) hk hu k1 (by simpa using hr.len) (mapKeys hr (hfit.imp And.left id)) hf
    rcases hv with ⟨j, yv, rfl, hvv⟩ | ⟨rfl, rfl⟩
    · obtain ⟨m, hm1, rfl⟩ := hr'
      rw [Array.getElem?_toList] at hm1
      obtain ⟨k', hj1, _⟩ := findE_get hf
      obtain ⟨n1, n2, n3, n4⟩ := hr.val j (k', yv) m hj1 hm1
      have hva : va = i.agg := (hfit.resolve_right fun e' => by subst e'; simp at hj1).2
      have hmv : RV cx μ σ w v m.val := toVal_rel hvv (n1.trans hva) (by simpa using n2) fun p c xx hj hxx => by
        rw [List.getElem?_map] at hj
        cases hcj : yv[p]? with
        | none => rw [hcj] at hj; cases hj
        | some c0 => rw [hcj] at hj; cases hj; have := n4 p c0 xx hcj hxx; exact ⟨.d this, this.one⟩
      refine goes_val h hd (u := if ok then .tuple #[m.val, .bool true] else m.val) ?_ (hpair hmv)
      simp [execOp, ho, Instr.lookup, hvx, run_underlying ht, hchk, hrun, rgetm hh]
    · cases hr'
      refine goes_val h hd (u := if ok then .tuple #[z, .bool false] else z) ?_ (hpair hzr)
      simp [execOp, ho, Instr.lookup, hvx, run_underlying ht, hchk, hrun, rgetm hh, hz]

theorem eqCells_get : ∀ {ks : List CK} {p q : List C}, eqCells ks p q = some true → ∀ (j : Nat) (c c' : C), p[j]? = some c → q[j]? = some c' → ∃ k, eqCell k c c' = some true
  | [], [], [], _, j, c, c', h, _ => by simp at h
  | k :: ks, a :: p, b :: q, h, j, c, c', hc, hc' => by
    simp only [eqCells] at h
    split at h
    · rename_i e he
      obtain ⟨e', h1, h2⟩ := Option.map_eq_some_iff.1 h
      simp only [Bool.and_eq_true] at h2
      obtain ⟨rfl, rfl⟩ := h2
      cases j with
      | zero => simp at hc hc'; subst hc; subst hc'; exact ⟨k, he⟩
      | succ j => exact eqCells_get h1 j c c' (by simpa using hc) (by simpa using hc')
    · cases h
  | [], _ :: _, _, h, _, _, _, _, _ => by simp [eqCells] at h
  | [], [], _ :: _, h, _, _, _, _, _ => by simp [eqCells] at h
  | _ :: _, [], _, h, _, _, _, _, _ => by simp [eqCells] at h
  | _ :: _, _ :: _, [], h, _, _, _, _, _ => by simp [eqCells] at h

theorem leaf_bits {k : CK} {c c' : C} (h : eqCell k c c' = some true) {x x' : Value} (hx : ∃ w X, RepC w X c x) (hx' : ∃ w X, RepC w X c' x') (n : Nat) : Instr.sameBits n x x' = true := by
  cases k with
  | b =>
    obtain ⟨a, b, rfl, rfl, h3⟩ := eqCell_b h
    rw [leaf_bool hx rfl, leaf_bool hx' rfl]
    cases n <;> simpa [Instr.sameBits] using h3
  | i =>
    obtain ⟨k', a, b, rfl, rfl, h3⟩ := eqCell_i h
    rw [leaf_int hx rfl, leaf_int hx' rfl]
    cases n <;> simpa [Instr.sameBits] using h3
  | s =>
    obtain ⟨a, b, rfl, rfl, h3⟩ := eqCell_s h
    rw [leaf_str hx rfl, leaf_str hx' rfl]
    have h4 : a = b := by simpa using h3
    subst h4
    have : (a == a) = true := by rw [beq_toListBytes, bytes_beq]; simp
    cases n <;> simp only [Instr.sameBits, this]

theorem same_bits {ks : List CK} {u : TypeDesc} {p q : List C} {v v' : Value} (hp : KeyRel u p v) (hq : KeyRel u q v') (he : eqCells ks p q = some true) : Instr.sameBits 10000 v v' = true := by
  rcases hp with ⟨h1, vs, rfl, h2⟩ | ⟨h1, c, rfl, h2, _⟩
  · rcases hq with ⟨_, us, rfl, h3⟩ | ⟨h3, _⟩
    · have hl := eqCells_len he
      have hsz : vs.size = us.size := by rw [← h2.1, ← h3.1, hl.1, hl.2]
      show (vs.size == us.size && (vs.toList.zip us.toList).all fun (x, y) => Instr.sameBits 9999 x y) = true
      simp only [Bool.and_eq_true, beq_iff_eq, List.all_eq_true]
      refine ⟨hsz, fun xy hxy => ?_⟩
      obtain ⟨j, hj⟩ := List.getElem?_of_mem hxy
      obtain ⟨x, y⟩ := xy
      rw [List.getElem?_zip_eq_some] at hj
      obtain ⟨hj1, hj2⟩ := hj
      have hj1' : vs[j]? = some x := by simpa using hj1
      have hj2' : us[j]? = some y := by simpa using hj2
      have hjp : j < p.length := by rw [h2.1]; exact (Array.getElem?_eq_some_iff.1 hj1').1
      have hjq : j < q.length := by rw [h3.1]; exact (Array.getElem?_eq_some_iff.1 hj2').1
      obtain ⟨k, hk⟩ := eqCells_get he j _ _ (List.getElem?_eq_getElem hjp) (List.getElem?_eq_getElem hjq)
      exact leaf_bits hk (h2.2 j _ x (List.getElem?_eq_getElem hjp) hj1') (h3.2 j _ y (List.getElem?_eq_getElem hjq) hj2') 9999
    · rw [h1] at h3; cases h3
  · rcases hq with ⟨h3, _⟩ | ⟨_, c', rfl, h3, _⟩
    · rw [h1] at h3; cases h3
    · obtain ⟨k, hk⟩ := eqCells_get he 0 c c' rfl rfl
      exact leaf_bits hk h2 h3 10000

theorem eqCell_symm {k : CK} {c c' : C} {e : Bool} (h : eqCell k c c' = some e) : eqCell k c' c = some e := by
  cases k with
  | b => obtain ⟨a, b, rfl, rfl, rfl⟩ := eqCell_b h; simp only [eqCell]; rw [Bool.beq_comm]
  | i => obtain ⟨k', a, b, rfl, rfl, rfl⟩ := eqCell_i h; simp only [eqCell, if_true]; congr 1; exact decide_eq_decide.2 eq_comm
  | s => obtain ⟨a, b, rfl, rfl, rfl⟩ := eqCell_s h; simp only [eqCell]; congr 1; exact decide_eq_decide.2 eq_comm

theorem eqCells_symm : ∀ {ks : List CK} {p q : List C} {e : Bool}, eqCells ks p q = some e → eqCells ks q p = some e
  | [], [], [], e, h => h
  | k :: ks, a :: p, b :: q, e, h => by
    simp only [eqCells] at h ⊢
    split at h
    · rename_i e0 he
      obtain ⟨e', h1, h2⟩ := Option.map_eq_some_iff.1 h
      rw [eqCell_symm he, eqCells_symm h1]
      simp [h2]
    · cases h
  | [], _ :: _, _, _, h => by simp [eqCells] at h
  | [], [], _ :: _, _, h => by simp [eqCells] at h
  | _ :: _, [], _, _, h => by simp [eqCells] at h
  | _ :: _, _ :: _, [], _, h => by simp [eqCells] at h

/-- A map's entry is written. -/
theorem go_mup (h : Rel cx μ σ a w) (hd : ∀ d, o.dst = some d → d < cx.n) {t kt e : TypeId} {x y z : Operand} {ax ay az : AX} (ho : o.op = .mapUpdate t x y z) (ht : P.underlying t = some (.map kt e)) (hx : toX x = some ax) (hy : toX y = some ay) (hz : toX z = some az)
    {ks : List CK} (hk : plainT P 8 kt = some ks) {u : TypeDesc} (hu : P.underlying kt = some u) {k q : Nat} (hev : σ.ev ax = .one (.mpr k q)) (hq : q = σ.g k) {ka va : Bool} {es : List (List C × List C)} (hrow : σ.o k = .map true ka va es)
    {kc vc : List C} (hkc : (cellsOf (σ.ev ay)).bind pureCells = some kc) (hvc : (cellsOf (σ.ev az)).bind pureCells = some vc)
    (hag : isAggV (σ.ev ay) = isAggB u) (hlen : kc.length = ks.length) (hfit : (ka = isAggB u ∧ isAggV (σ.ev az) = va) ∨ es = []) {r : Option (Nat × List C)} (hf : findE ks kc es = some r)
    {x' : AO} (hx' : (∃ i y, r = some (i, y) ∧ x' = .map true ka va (es.set i (kc, vc))) ∨ (r = none ∧ x' = .map true (isAggV (σ.ev ay)) (isAggV (σ.ev az)) (es ++ [(kc, vc)]))) :
    Goes P o cx σ a w (.tup [], [(k, q, x')]) := by
  have h1 := ev_toX h hx
  have h2 := ev_toX h hy
  have h3 := ev_toX h hz
  obtain ⟨k1, k2, k3, k4⟩ := key_of h2 hkc hag
  have hvr : CellsRel (RCl cx μ σ w) (dm vc) (a.eval z).cells ∧ isAggVal (a.eval z) = isAggV (σ.ev az) ∧ (isAggV (σ.ev az) = false → vc.length = 1) := by
    let uu : TypeDesc := if isAggV (σ.ev az) then .struct #[] else .bool
    have huu : isAggV (σ.ev az) = isAggB uu := by simp only [uu]; split <;> simp_all [isAggB]
    obtain ⟨_, e2, e3, e4⟩ := key_of (u := uu) h3 hvc huu
    exact ⟨e2, e3, e4⟩
  obtain ⟨v2, v3, v4⟩ := hvr
  have hchk : ∀ em, (Instr.checkKey em 10000 kt (a.eval y)).run P w = .ok () w := fun em => by
    obtain ⟨vs, p1, p2⟩ := k1.part rfl
    exact check_plain em 8 kt ks hk 10000 (by omega) u hu vs 0 _ (by rw [← hlen]; exact p2) (by rw [← hlen, p1.1]; omega)
  -- the map
  rw [hev] at h1
  generalize hzx : a.eval x = zx at h1
  cases rv_one h1 with
  | mpr hg hp hat =>
    have hm := hat hq
    unfold MprAt at hm
    rw [hrow] at hm
    obtain ⟨b, hb, rfl⟩ := hm
    have ho2 := h.obj k
    unfold RelO at ho2
    rw [hrow] at ho2
    obtain ⟨b', me, clock, g1, g2, g3, _⟩ := ho2
    have hbb : b' = b := by rw [g1] at hb; exact Option.some.inj hb
    subst hbb
    have hlive : liveO (σ.o k) = true := by rw [hrow]; rfl
    have hblt := (Array.getElem?_eq_some_iff.1 g2).1
    obtain ⟨r', hr', hrun⟩ := findKey_run (w := w) hk hu k1 (by simpa using g3.len) (mapKeys g3 (hfit.imp And.left id)) hf
    -- what is written
    have fin : ∀ (me' : Array MapEntry) (clock' : Nat), (execOp a.eval o).run P w = .ok .skip { w with heap := w.heap.setIfInBounds b' (.map me' clock') } →
        (∃ ka' va' es', x' = .map true ka' va' es' ∧ MapRel w (Xs cx.X0 σ.o μ) ka' va' es' me' clock') → Goes P o cx σ a w (.tup [], [(k, q, x')]) := by
      intro me' clock' hrun ⟨ka', va', es', hxe, hrel⟩
      let w' : World := { w with heap := w.heap.setIfInBounds b' (.map me' clock') }
      have hsize : w'.heap.size = w.heap.size := by simp [w']
      have hoth : ∀ c, c ≠ b' → w'.heap[c]? = w.heap[c]? := fun c hc => Array.getElem?_setIfInBounds_ne (Ne.symm hc)
      have hself : w'.heap[b']? = some (.map me' clock') := Array.getElem?_setIfInBounds_self_of_lt hblt
      refine ⟨_, undef, w', upd μ k (some b'), hrun, .inr ⟨rfl, rfl⟩, ?_⟩
      subst hq
      refine h.turn k (σ.g k) x' (some b') w' (Nat.le_refl _) (fun _ => ?_) (fun c hc hne => hoth c fun e => hne ⟨hlive, by rw [g1, e]⟩)
        ⟨h.kept.os, h.kept.tape, h.kept.output, by have := h.kept.size; omega, fun c hc hne => (hoth c fun e => ?_).trans (h.kept.block c hc hne)⟩ (by omega)
        (fun _ c hc => by cases hc; exact ⟨.inr ⟨hlive, g1⟩, by omega⟩) (fun hcell hpast => ?_) hd (fun hcell => .tup [] #[] rfl (by simp))
      · rw [hrow, hxe]
        refine ⟨fun _ _ _ hh => trivial, fun _ _ _ hh => trivial, fun v hh => ?_, fun _ hh => trivial⟩
        unfold MprAt at hh ⊢
        rw [g1] at hh
        exact hh
      · rcases (h.lv k b' hlive g1).1 with e1 | e1
        · omega
        · exact hne (by rw [e1, e])
      · unfold RelO
        rw [upd_same, hxe]
        refine ⟨b', me', clock', by rw [upd_same], hself, ?_, fun e => by cases e⟩
        rw [← hxe]
        exact hrel.mono (fun c hc hx => (hpast c hc hx).1) (fun c hc hx => (hpast c hc hx).2)
    have newKey : isAggVal (a.eval y) = isAggV (σ.ev ay) ∧ (a.eval y).cells.size = kc.length ∧ (isAggV (σ.ev ay) = false → kc.length = 1) ∧ ∀ (j : Nat) (c : C) (v : Value), kc[j]? = some c → (a.eval y).cells[j]? = some v → RepC w (Xs cx.X0 σ.o μ) c v := by
      refine ⟨k3, by have := k2.1; simpa using this.symm, k4, fun j c v hj hv => ?_⟩
      have := (k2.2 j (.d c) v (by simp [hj]) hv).1
      cases this with | d h4 => exact h4
    have newVal : isAggVal (a.eval z) = isAggV (σ.ev az) ∧ (a.eval z).cells.size = vc.length ∧ (isAggV (σ.ev az) = false → vc.length = 1) ∧ ∀ (j : Nat) (c : C) (v : Value), vc[j]? = some c → (a.eval z).cells[j]? = some v → RepC w (Xs cx.X0 σ.o μ) c v := by
      refine ⟨v3, by have := v2.1; simpa using this.symm, v4, fun j c v hj hv => ?_⟩
      have := (v2.2 j (.d c) v (by simp [hj]) hv).1
      cases this with | d h4 => exact h4
    rcases hx' with ⟨i, yv, rfl, hxe⟩ | ⟨rfl, hxe⟩
    · obtain ⟨m, hm1, rfl⟩ := hr'
      rw [Array.getElem?_toList] at hm1
      obtain ⟨k', hj1, heq⟩ := findE_get hf
      have hkm := mapKeys g3 (hfit.imp And.left id) i (k', yv) m hj1 (by simpa using hm1)
      have hne : es ≠ [] := fun e' => by subst e'; simp at hj1
      obtain ⟨f1, f2⟩ := hfit.resolve_right hne
      have hsb : Instr.sameBits 10000 m.key (a.eval y) = true := by
        exact same_bits hkm k1 (eqCells_symm heq)
      refine fin (me.modify i fun e => { e with key := a.eval y, val := a.eval z }) clock ?_ ⟨ka, va, _, hxe, ?_⟩
      · have hi : i < me.size := (Array.getElem?_eq_some_iff.1 hm1).1
        simp [execOp, ho, Instr.mapUpdate, hzx, run_underlying ht, hchk, hrun, rgetm g2, hm1, Instr.keyThatStays, hsb, setObj, Sem.run, g2]
      · have hi : i < me.size := (Array.getElem?_eq_some_iff.1 hm1).1
        have hie : i < es.length := (List.getElem?_eq_some_iff.1 hj1).1
        have hget : ∀ (j : Nat) (e' : MapEntry), (me.modify i fun e => { e with key := a.eval y, val := a.eval z })[j]? = some e' → ∃ e0, me[j]? = some e0 ∧ e'.born = e0.born ∧ ((j = i ∧ e'.key = a.eval y ∧ e'.val = a.eval z) ∨ (j ≠ i ∧ e' = e0)) := by
          intro j e' he'
          rw [Array.getElem?_modify] at he'
          split at he'
          · rename_i hij
            subst hij
            rw [hm1] at he'
            simp at he'
            subst he'
            exact ⟨m, hm1, rfl, .inl ⟨rfl, rfl, rfl⟩⟩
          · rename_i hij
            exact ⟨e', he', rfl, .inr ⟨fun e => hij e.symm, rfl⟩⟩
        have hset : ∀ (j : Nat) (e' : List C × List C), (es.set i (kc, vc))[j]? = some e' → (j = i ∧ e' = (kc, vc)) ∨ (j ≠ i ∧ es[j]? = some e') := by
          intro j e' he'
          rw [List.getElem?_set] at he'
          split at he'
          · rename_i hij
            subst hij
            exact .inl ⟨rfl, (Option.some.inj he').symm⟩
          · rename_i hij; exact .inr ⟨fun e => hij e.symm, he'⟩
        refine ⟨by rw [List.length_set, Array.size_modify]; exact g3.len, fun j e' he' => ?_, fun j j' e1 e2 h1 h2 h12 => ?_, fun j e' m' he' hm' => ?_, fun j e' m' he' hm' => ?_⟩
        · obtain ⟨e0, p1, p2, _⟩ := hget j e' he'
          rw [p2]; exact g3.born j e0 p1
        · obtain ⟨a1, p1, p2, _⟩ := hget j e1 h1
          obtain ⟨a2, p3, p4, _⟩ := hget j' e2 h2
          exact g3.dist j j' a1 a2 p1 p3 (by rw [← p2, ← p4]; exact h12)
        · obtain ⟨e0, p1, p2, p3⟩ := hget j m' hm'
          rcases hset j e' he' with ⟨rfl, rfl⟩ | ⟨hji, he0⟩
          · rcases p3 with ⟨_, p4, _⟩ | ⟨p4, _⟩
            · rw [p4]
              obtain ⟨n1, n2, n3, n4⟩ := newKey
              exact ⟨n1.trans (hag.trans f1.symm), n2, fun hka => n3 (hag.trans (f1.symm.trans hka)), n4⟩
            · exact absurd rfl p4
          · rcases p3 with ⟨p4, _⟩ | ⟨_, rfl⟩
            · exact absurd p4 hji
            · exact g3.key j e' m' he0 p1
        · obtain ⟨e0, p1, p2, p3⟩ := hget j m' hm'
          rcases hset j e' he' with ⟨rfl, rfl⟩ | ⟨hji, he0⟩
          · rcases p3 with ⟨_, _, p4⟩ | ⟨p4, _⟩
            · rw [p4]
              obtain ⟨n1, n2, n3, n4⟩ := newVal
              exact ⟨n1.trans f2, n2, fun hka => n3 (f2.trans hka), n4⟩
            · exact absurd rfl p4
          · rcases p3 with ⟨p4, _⟩ | ⟨_, rfl⟩
            · exact absurd p4 hji
            · exact g3.val j e' m' he0 p1
    · cases hr'
      refine fin (me.push { key := a.eval y, val := a.eval z, born := clock }) (clock + 1) ?_ ⟨_, _, _, hxe, ?_⟩
      · simp [execOp, ho, Instr.mapUpdate, hzx, run_underlying ht, hchk, hrun, rgetm g2, setObj, Sem.run, g2]
      · have hget : ∀ (j : Nat) (e' : MapEntry), (me.push { key := a.eval y, val := a.eval z, born := clock })[j]? = some e' → (j = me.size ∧ e' = { key := a.eval y, val := a.eval z, born := clock }) ∨ me[j]? = some e' := by
          intro j e' he'
          rw [Array.getElem?_push] at he'
          split at he'
          · rename_i hj; exact .inl ⟨hj, (Option.some.inj he').symm⟩
          · exact .inr he'
        have happ : ∀ (j : Nat) (e' : List C × List C), (es ++ [(kc, vc)])[j]? = some e' → (j = es.length ∧ e' = (kc, vc)) ∨ es[j]? = some e' := by
          intro j e' he'
          rw [List.getElem?_append] at he'
          split at he'
          · exact .inr he'
          · rename_i hj
            have : j - es.length < 1 := by
              have := (List.getElem?_eq_some_iff.1 he').1
              simpa using this
            have hj' : j = es.length := by omega
            subst hj'
            simp at he'
            exact .inl ⟨rfl, he'.symm⟩
        have fit : ∀ {j : Nat} {e' : List C × List C}, es[j]? = some e' → ka = isAggV (σ.ev ay) ∧ va = isAggV (σ.ev az) := fun he' => by
          obtain ⟨f1, f2⟩ := hfit.resolve_right fun e' => by subst e'; simp at he'
          exact ⟨f1.trans hag.symm, f2.symm⟩
        refine ⟨by simp [g3.len], fun j e' he' => ?_, fun j j' e1 e2 h1 h2 h12 => ?_, fun j e' m' he' hm' => ?_, fun j e' m' he' hm' => ?_⟩
        · rcases hget j e' he' with ⟨_, rfl⟩ | h1
          · exact Nat.lt_succ_self _
          · exact Nat.lt_succ_of_lt (g3.born j e' h1)
        · rcases hget j e1 h1 with ⟨p1, rfl⟩ | p1
          · rcases hget j' e2 h2 with ⟨p2, rfl⟩ | p2
            · rw [p1, p2]
            · have := g3.born j' e2 p2; simp only at h12; omega
          · rcases hget j' e2 h2 with ⟨p2, rfl⟩ | p2
            · have := g3.born j e1 p1; simp only at h12; omega
            · exact g3.dist j j' e1 e2 p1 p2 h12
        · have hlt : ∀ {x : MapEntry}, me[j]? = some x → j < me.size := fun hx => (Array.getElem?_eq_some_iff.1 hx).1
          have hlt' : ∀ {x : List C × List C}, es[j]? = some x → j < es.length := fun hx => (List.getElem?_eq_some_iff.1 hx).1
          rcases happ j e' he' with ⟨p1, rfl⟩ | p1
          · rcases hget j m' hm' with ⟨_, rfl⟩ | p2
            · exact newKey
            · have := hlt p2; rw [p1, g3.len] at this; omega
          · rcases hget j m' hm' with ⟨p2, _⟩ | p2
            · have := hlt' p1; rw [p2, g3.len] at this; omega
            · obtain ⟨f1, f2⟩ := fit p1
              rw [← f1]; exact g3.key j e' m' p1 p2
        · have hlt : ∀ {x : MapEntry}, me[j]? = some x → j < me.size := fun hx => (Array.getElem?_eq_some_iff.1 hx).1
          have hlt' : ∀ {x : List C × List C}, es[j]? = some x → j < es.length := fun hx => (List.getElem?_eq_some_iff.1 hx).1
          rcases happ j e' he' with ⟨p1, rfl⟩ | p1
          · rcases hget j m' hm' with ⟨_, rfl⟩ | p2
            · exact newVal
            · have := hlt p2; rw [p1, g3.len] at this; omega
          · rcases hget j m' hm' with ⟨p2, _⟩ | p2
            · have := hlt' p1; rw [p2, g3.len] at this; omega
            · obtain ⟨f1, f2⟩ := fit p1
              rw [← f2]; exact g3.val j e' m' p1 p2

theorem mmap_tag {α : Type} {x : Option α} {f : α → AOp} {aop : AOp} (h : x.map f = some aop) (hf : ∀ y, isMapOp (f y) = false) : isMapOp aop = false := by
  obtain ⟨y, _, rfl⟩ := Option.map_eq_some_iff.1 h
  exact hf y
theorem mbind_tag {α : Type} {x : Option α} {f : α → Option AOp} {aop : AOp} (h : x.bind f = some aop) (hf : ∀ y, f y = some aop → isMapOp aop = false) : isMapOp aop = false := by
  obtain ⟨y, _, h⟩ := bind_some' h
  exact hf y h
theorem msome_tag {x aop : AOp} (h : some x = some aop) (hf : isMapOp x = false) : isMapOp aop = false := by cases h; exact hf
theorem mnone_tag {aop : AOp} (h : none = some aop) : isMapOp aop = false := by cases h
theorem mbin_tag {op : BinOp} {t : Nat} {x y : AX} {aop : AOp} (h : compBin P op t x y = some aop) : isMapOp aop = false := by
  unfold compBin at h
  repeat' split at h
  all_goals first | exact msome_tag h rfl | exact mnone_tag h

def isMapSrc : Op → Bool
  | .call _ | .lookup .. | .mapUpdate .. | .makeMap .. | .range .. | .next .. | .entry _ => true
  | _ => false

theorem map_tag_zero {op : Op} {aop : AOp} (h : compOp P op = some aop) (hop : isMapSrc op = false) : isMapOp aop = false := by
  cases op with
  | call c => simp [isMapSrc] at hop
  | lookup => simp [isMapSrc] at hop
  | mapUpdate => simp [isMapSrc] at hop
  | makeMap => simp [isMapSrc] at hop
  | range => simp [isMapSrc] at hop
  | next => simp [isMapSrc] at hop
  | entry => simp [isMapSrc] at hop
  | binOp op t x y t' =>
    simp only [compOp] at h
    split at h
    · exact mbin_tag h
    · cases h
  | _ =>
    simp only [compOp, reduceCtorEq] at h
    try (repeat' split at h)
    all_goals try first
      | contradiction
      | exact mnone_tag h
      | (rename_i hx _; cases hx; done)
      | exact msome_tag h rfl
      | exact mmap_tag h fun _ => rfl
      | (refine mbind_tag h fun _ h => ?_; (repeat' split at h) <;> first | exact mnone_tag h | exact msome_tag h rfl | exact mmap_tag h fun _ => rfl | (refine mbind_tag h fun _ h => ?_; (repeat' split at h) <;> first | exact mnone_tag h | exact msome_tag h rfl | exact mmap_tag h fun _ => rfl))

/-- Every operation that has one outcome. -/
theorem det_all (h : Rel cx μ σ a w) (hd : ∀ d, o.dst = some d → d < cx.n) {aop : AOp} (hc : compOp P o.op = some aop) {d : Nat} {e : Eff} (he : det σ d aop = some e) : Goes P o cx σ a w e := by
  by_cases hmap : isMapOp aop = false
  · exact det_sound h hd hc hmap he
  have hsrc : isMapSrc o.op = true := by
    cases hh : isMapSrc o.op with
    | true => rfl
    | false => exact absurd (map_tag_zero hc hh) hmap
  cases ho : o.op with
  | call c =>
    rw [ho] at hc
    simp only [compOp] at hc
    unfold compCall at hc
    split at hc
    · rename_i b hb
      unfold compBuiltin at hc
      split at hc
      · rename_i x t hxs hts
        split at hc <;> first
          | (simp only [Option.some.injEq] at hc; subst hc; simp [isMapOp] at hmap; done)
          | (split at hc <;> first | (simp only [Option.some.injEq] at hc; subst hc; simp [isMapOp] at hmap; done) | cases hc)
          | skip
        · rename_i kt et ht
          simp only [Option.some.injEq] at hc
          subst hc
          obtain ⟨y, hy, hyx⟩ := args1 hxs
          have hty : c.argTypes = #[t] := arr1 hts
          have hcc : c = { callee := .builtin .len, args := #[y], argTypes := #[t] } := by
            cases c; simp only at hb hy hty; subst hb; subst hy; subst hty; rfl
          subst hcc
          simp only [det] at he
          split at he
          · rename_i ka va es hev
            simp only [Option.some.injEq] at he
            subst he
            exact go_lenm h hd ho ht hyx (ka := ka) (va := va) (by rw [hev]; rfl)
          · rename_i k q hev
            split at he
            · rename_i hq
              split at he
              · rename_i l ka va es hrow
                simp only [Option.some.injEq] at he
                subst he
                exact go_lenm h hd ho ht hyx (ka := ka) (va := va) (by rw [hev]; simp [mapOf, hq, hrow])
              · cases he
            · cases he
          · cases he
        · cases hc
      · split at hc
        · simp only [Option.some.injEq] at hc; subst hc; cases he
        · cases hc
      · split at hc
        · split at hc
          · obtain ⟨i, _, h1⟩ := bind_some' hc
            split at h1
            · simp only [Option.some.injEq] at h1; subst h1; simp [isMapOp] at hmap
            · cases h1
          · cases hc
        · cases hc
      · simp only [Option.some.injEq] at hc; subst hc; simp [isMapOp] at hmap
      · simp only [Option.some.injEq] at hc; subst hc; simp [isMapOp] at hmap
      · cases hc
    · split at hc
      · split at hc
        · obtain ⟨l, _, rfl⟩ := Option.map_eq_some_iff.1 hc; cases he
        · cases hc
      · cases hc
    · obtain ⟨l, _, rfl⟩ := Option.map_eq_some_iff.1 hc; cases he
    · cases hc
  | lookup t x y ok =>
    rw [ho] at hc
    simp only [compOp] at hc
    split at hc
    · rename_i kt et ax ay ht hx hy
      split at hc
      · rename_i i ks u hi hk hu
        simp only [Option.some.injEq] at hc
        subst hc
        simp only [det] at he
        split at he
        · rename_i ka va es kc hm hkc
          split at he
          · rename_i hcond
            obtain ⟨c1, c2, c3⟩ := hcond
            split at he
            · rename_i j yv hf
              obtain ⟨v, hv, rfl⟩ := Option.map_eq_some_iff.1 he
              exact go_lkp h hd ho ht hx hy hi hk hu hm hkc c1 c2 c3 hf (.inl ⟨j, yv, rfl, hv⟩)
            · rename_i hf
              simp only [Option.some.injEq] at he
              subst he
              exact go_lkp h hd ho ht hx hy hi hk hu hm hkc c1 c2 c3 hf (.inr ⟨rfl, rfl⟩)
            · cases he
          · cases he
        · cases he
      · cases hc
    · cases hc
  | mapUpdate t x y z =>
    rw [ho] at hc
    simp only [compOp] at hc
    split at hc
    · rename_i kt et ax ay az ht hx hy hz
      split at hc
      · rename_i ks u hk hu
        simp only [Option.some.injEq] at hc
        subst hc
        simp only [det] at he
        split at he
        · rename_i k q kc vc hev hkc hvc
          split at he
          · rename_i hq
            split at he
            · rename_i ka va es hrow
              split at he
              · rename_i hcond
                obtain ⟨c1, c2, c3⟩ := hcond
                split at he
                · rename_i j yv hf
                  simp only [Option.some.injEq] at he
                  subst he
                  exact go_mup h hd ho ht hx hy hz hk hu hev hq hrow hkc hvc c1 c2 c3 hf (.inl ⟨j, yv, rfl, rfl⟩)
                · rename_i hf
                  simp only [Option.some.injEq] at he
                  subst he
                  exact go_mup h hd ho ht hx hy hz hk hu hev hq hrow hkc hvc c1 c2 c3 hf (.inr ⟨rfl, rfl⟩)
                · cases he
              · cases he
            · cases he
          · cases he
        · cases he
      · cases hc
    · cases hc
  | makeMap t r =>
    rw [ho] at hc
    cases r with
    | some r => simp [compOp] at hc
    | none =>
      simp only [compOp, Option.some.injEq] at hc
      subst hc
      simp only [det, Option.some.injEq] at he
      subst he
      exact go_mkm h hd ho
  | range t x =>
    rw [ho] at hc
    simp only [compOp] at hc
    split at hc
    · rename_i kt et ax ht hx
      simp only [Option.some.injEq] at hc
      subst hc
      simp only [det] at he
      split at he
      · rename_i ka va es hev
        simp only [Option.some.injEq] at he
        subst he
        exact go_rng h hd ho ht hx hev
      · cases he
    · cases hc
  | next x s =>
    rw [ho] at hc
    cases s with
    | true => simp [compOp] at hc
    | false =>
      simp only [compOp] at hc
      obtain ⟨ax, _, rfl⟩ := Option.map_eq_some_iff.1 hc
      cases he
  | entry x =>
    rw [ho] at hc
    simp only [compOp] at hc
    obtain ⟨ax, hx, rfl⟩ := Option.map_eq_some_iff.1 hc
    simp only [det] at he
    split at he
    · rename_i k q hev
      split at he
      · rename_i hq
        split at he
        · rename_i ka va left e hit
          split at he
          · rename_i kv vv hkv hvv
            simp only [Option.some.injEq] at he
            subst he
            exact go_ent h hd ho hx hev hq hit hkv hvv
          · cases he
        · cases he
      · cases he
    · cases he
  | _ => rw [ho] at hsrc; simp [isMapSrc] at hsrc

end
end Go.Proofs.Ytnpdeecoejabgaa
