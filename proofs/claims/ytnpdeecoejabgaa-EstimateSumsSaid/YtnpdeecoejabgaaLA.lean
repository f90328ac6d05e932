/- A LAW'S ROW, OUT OF THE CONTRACT OF ITS FUNCTION. -/
import Derived.Test.YtnpdeecoejabgaaKZ
import Derived.Carry
import Derived.ChangeShapes
import Derived.SizedLaws
set_option linter.unusedSimpArgs false
set_option linter.unusedVariables false
namespace Go.Proofs.Ytnpdeecoejabgaa
open Go Go.RowKit Go.ChangeShapes

/-- An argument, as pure data. -/
def packT (P : Program) (t : TypeId) (xs : List C) : V RC := match P.underlying t with
  | some (.struct _) | some (.array _ _) => .agg (xs.map .d)
  | _ => .one (.d (xs.headD .nilp))

def ArgsT (P : Program) : List TypeId → List (List C) → Prop
  | [], [] => True
  | t :: ts, x :: xs => HasT P 8 t x ∧ ArgsT P ts xs
  | _, _ => False

def packs (P : Program) : List TypeId → List (List C) → List (V RC)
  | t :: ts, x :: xs => packT P t x :: packs P ts xs
  | _, _ => []

section
variable {P : Program} {w : World} {H : Type} {enc : TypeId × Value → H} {sp : Nat → Bool} {held : Bool} {b0 : Nat}

theorem pack_one {t : TypeId} {v : Value} {d : DataW H} {p : List MemPlace} (hl : layT P 8 t = true) (hv : Value.okWide P w .any b0 t v) (h : DataW.Trod enc P w 0 sp held t v d p) :
    ∃ xs, HasT P 8 t xs ∧ RepV (RepR w (fun _ => False) none) (packT P t xs) v := by
  obtain ⟨fuel, hf⟩ := h
  obtain ⟨xs, h1, h2, h3⟩ := trod_reps 8 t fuel _ _ hl hf
  refine ⟨xs, h1, ?_⟩
  unfold Value.okWide at hv
  unfold packT
  have agg : (∃ cs, v = .agg cs ∧ cs.size = P.cellsOf t ∧ Row.okWide P w .any b0 t cs) → RepV (RepR w (fun _ => False) none) (.agg (xs.map .d)) v := by
    rintro ⟨cs, rfl, _, _⟩
    have hc : (Value.agg cs).cells = cs := rfl
    rw [hc] at h3
    refine .agg _ _ (by simpa using h3.1) fun j c v hj hv => ?_
    rw [List.getElem?_map] at hj
    cases hx : xs[j]? with
    | none => rw [hx] at hj; cases hj
    | some x =>
      rw [hx] at hj; cases hj
      have := h3.2 j x v hx (by simpa using hv)
      exact ⟨this, this.one⟩
  have one : v.oneCell' = true → RepV (RepR w (fun _ => False) none) (.one (.d (xs.headD .nilp))) v := by
    intro h1'
    rw [cells_one h1'] at h3
    match xs, h3 with
    | [x], h3 =>
      have := h3.2 0 x v rfl rfl
      exact .one _ _ this this.one
  unfold layT at hl
  cases hu : P.underlying t with
  | none => rw [hu] at hl; cases hl
  | some u =>
    rw [hu] at hv hl
    cases u with
    | struct fs => exact agg hv
    | array m e => exact agg hv
    | bool => exact one (by unfold Cell.okWide at hv; rw [hu] at hv; unfold Cell.ok at hv; rw [hu] at hv; cases v <;> first | rfl | exact hv.elim)
    | int k => exact one (by unfold Cell.okWide at hv; rw [hu] at hv; unfold Cell.ok at hv; rw [hu] at hv; cases v <;> first | rfl | exact hv.elim)
    | string => exact one (by unfold Cell.okWide at hv; rw [hu] at hv; unfold Cell.ok at hv; rw [hu] at hv; cases v <;> first | rfl | exact hv.elim)
    | slice e => exact one (by unfold Cell.okWide at hv; rw [hu] at hv; unfold Cell.ok at hv; rw [hu] at hv; cases v <;> first | rfl | exact hv.elim)
    | _ => cases hl

theorem packs_rel : ∀ (ts : List TypeId) (vs : List Value) (ds : List (DataW H)) (ps : List MemPlace), DataW.TrodAll enc P w 0 sp held ts vs ds ps → ts.all (layT P 8) = true → (∀ (j : Nat) t v, ts[j]? = some t → vs[j]? = some v → Value.okWide P w .any b0 t v) →
    ∃ xs, ArgsT P ts xs ∧ (packs P ts xs).length = vs.length ∧ ∀ (j : Nat) (a : V RC) (v : Value), (packs P ts xs)[j]? = some a → vs[j]? = some v → RepV (RepR w (fun _ => False) none) a v
  | [], [], [], _, _, _, _ => ⟨[], trivial, rfl, by simp [packs]⟩
  | t :: ts, v :: vs, d :: ds, ps, h, hl, hv => by
    obtain ⟨p, q, h1, h2, _⟩ := h
    simp only [List.all_cons, Bool.and_eq_true] at hl
    obtain ⟨x, g1, g2⟩ := pack_one hl.1 (hv 0 t v rfl rfl) h1
    obtain ⟨xs, g3, g4, g5⟩ := packs_rel ts vs ds q h2 hl.2 fun j t v h3 h4 => hv (j + 1) t v (by simpa using h3) (by simpa using h4)
    refine ⟨x :: xs, ⟨g1, g3⟩, by simp [packs, g4], fun j a u ha hu => ?_⟩
    cases j with
    | zero => simp [packs] at ha hu; subst ha; subst hu; exact g2
    | succ j => exact g5 j a u (by simpa [packs] using ha) (by simpa using hu)
  | [], _ :: _, _, _, h, _, _ => by simp [DataW.TrodAll] at h
  | _ :: _, [], _, _, h, _, _ => by simp [DataW.TrodAll] at h
  | [], [], _ :: _, _, h, _, _ => by simp [DataW.TrodAll] at h
  | _ :: _, _ :: _, [], _, h, _, _ => by simp [DataW.TrodAll] at h

theorem packs_own : ∀ (ts : List TypeId) (xs : List (List C)), ((packs P ts xs).map nOwn).sum = 0
  | t :: ts, x :: xs => by
    have : nOwn (packT P t x) = 0 := by unfold packT; split <;> simp [nOwn, isOwn]
    simp only [packs, List.map_cons, List.sum_cons, this, packs_own ts xs]
  | [], _ => rfl
  | _ :: _, [] => rfl

/-- The law's call answers true and leaves memory alone. -/
theorem law_calls {f : FuncId} {S : FSpec} (hc : COK P f S) {ts : List TypeId} (hS : ∀ xs (K : V RC → List (List (List C)) → Prop), ArgsT P ts xs → K (.one (.d (.bool true))) [] → S (packs P ts xs) K)
    {args : Array Value} {ds : List (DataW H)} {ps : List MemPlace} (ht : DataW.TrodAll enc P w 0 sp held ts args.toList ds ps) (hl : ts.all (layT P 8) = true) (hv : ∀ (j : Nat) t v, ts[j]? = some t → args[j]? = some v → Value.okWide P w .any b0 t v) :
    Calls P f args w fun e w' => e = .returned (.bool true) ∧ Below w.heap.size w w' := by
  obtain ⟨xs, h1, h2, h3⟩ := packs_rel ts args.toList ds ps ht hl fun j t v a b => hv j t v a (by simpa using b)
  have h4 := hc w (fun _ => False) none (packs P ts xs) args.toList (fun rv rows => rv = .one (.d (.bool true))) (fun _ h => h.elim) (fun _ h => by cases h) (by rw [packs_own]; omega) ⟨h2, h3⟩ (hS xs _ h1 rfl)
  simp only [Array.toArray_toList] at h4
  refine h4.mono ?_
  rintro e w' ⟨rv, rows, v, ob', rfl, rfl, _, hk, _, hrv, _⟩
  refine ⟨?_, ⟨hk.os, hk.tape, hk.output, hk.size, fun b hb => hk.block b hb (by simp)⟩⟩
  have h5 := rv_one' hrv
  cases h5
  rfl

theorem trodAll_below (hlo : laidOutB P = true) {w' : World} (hb : Below w.heap.size w w') : ∀ (ts : List TypeId) (vs : List Value) (ds : List (DataW H)) (ps : List MemPlace), (ts.all fun t => P.readableRec t && decide (t < P.types.size)) = true →
    DataW.TrodAll enc P w 0 (fun _ => true) true ts vs ds ps → (∀ x ∈ ps, x.block < w.heap.size) → DataW.TrodAll enc P w' 0 (fun b => decide (b < w.heap.size)) true ts vs ds ps
  | [], [], [], _, _, h, _ => h
  | t :: ts, v :: vs, d :: ds, ps, hr, h, hlt => by
    obtain ⟨p, q, h1, h2, rfl⟩ := h
    simp only [List.all_cons, Bool.and_eq_true, decide_eq_true_eq] at hr
    exact ⟨p, q, Below.trod hlo hr.1.1 hr.1.2 h1 hb fun x hx => hlt x (List.mem_append_left _ hx), trodAll_below hlo hb ts vs ds q (by simpa using hr.2) h2 fun x hx => hlt x (List.mem_append_right _ hx), rfl⟩
  | [], _ :: _, _, _, _, h, _ => by simp [DataW.TrodAll] at h
  | _ :: _, [], _, _, _, h, _ => by simp [DataW.TrodAll] at h
  | [], [], _ :: _, _, _, h, _ => by simp [DataW.TrodAll] at h
  | _ :: _, _ :: _, [], _, _, h, _ => by simp [DataW.TrodAll] at h

theorem trodAll_len : ∀ (ts : List TypeId) (vs : List Value) (ds : List (DataW H)) (ps : List MemPlace), DataW.TrodAll enc P w 0 sp held ts vs ds ps → ds.length = ts.length
  | [], [], [], _, _ => rfl
  | t :: ts, v :: vs, d :: ds, ps, h => by
    obtain ⟨p, q, h1, h2, rfl⟩ := h
    simp [trodAll_len ts vs ds q h2]
  | [], _ :: _, _, _, h => by simp [DataW.TrodAll] at h
  | _ :: _, [], _, _, h => by simp [DataW.TrodAll] at h
  | [], [], _ :: _, _, h => by simp [DataW.TrodAll] at h
  | _ :: _, _ :: _, [], _, h => by simp [DataW.TrodAll] at h

/-- The contract that a law's row asks for. -/
theorem law_contract {CC : Checked} {a : Assume} {f : FuncId} {fn : Func} {s : ChangeSpec} {apart handsOn : Bool} {conds : List PathCond} {S : FSpec} (hc : COK CC.prog f S) (hvars : s.vars = []) (hfnv : ∀ (H : Type) (ds : List (DataW H)), ds.length = fn.params.size → s.fn H ds = { results := [.lit (.bool true)], args := ds })
    (hS : ∀ xs (K : V RC → List (List (List C)) → Prop), ArgsT CC.prog fn.params.toList xs → K (.one (.d (.bool true))) [] → S (packs CC.prog fn.params.toList xs) K) (hlo : laidOutB CC.prog = true)
    (hl : fn.params.toList.all (layT CC.prog 8) = true) (hr : (fn.params.toList.all fun t => CC.prog.readableRec t && decide (t < CC.prog.types.size)) = true) (hres : ∃ t, fn.resultTypes = #[t] ∧ CC.prog.underlying t = some .bool) (enc : TypeId × Value → H) :
    ∀ (W : World) (base : Nat) (args : Array Value) (ds gs : List (DataW H)) (before : List MemPlace),
      (∀ (j : Nat) t v, fn.params[j]? = some t → args[j]? = some v → Value.okWide CC.prog W .any base t v) →
      DataW.Whole enc CC.prog fn.params.toList s.vars apart W args.toList ds gs before →
      conds.all (PathCond.test CC.prog ⟨fn.params.toList, ds, s.plain.varTypes CC.prog, gs⟩) = true →
      (DataW.weightsEach CC.prog (fn.params.toList ++ s.plain.varTypes CC.prog) (ds ++ gs)).all (· ≤ reachBytes) = true →
      a.holds CC.prog (lone (Frame.enter CC.prog f args .normal) [] W) →
      Calls CC.prog f args W fun e W' => ∃ v, e = .returned v ∧ s.post enc CC.prog fn apart true handsOn false W args v W' := by
  intro W base args ds gs before hval hW _ _ _
  have hW' := hW
  obtain ⟨p, q, hA, hV, rfl, _, _⟩ := hW
  rw [hvars] at hV
  obtain ⟨rfl, rfl⟩ := trodVars_none hV
  refine (law_calls hc hS hA hl fun j t v h1 h2 => hval j t v (by simpa using h1) h2).mono fun e W' ⟨he, hb⟩ => ⟨.bool true, he, ?_⟩
  have hlen := trodAll_len _ _ _ _ hA
  have hsf := hfnv H ds (by simpa using hlen)
  obtain ⟨t, ht1, ht2⟩ := hres
  refine ⟨ds, [], _, [], p, [], hW', ?_, ?_, ?_, hb.frame _, fun h => by cases h⟩
  · rw [List.append_nil, hsf, ht1]
    exact trodAll_mk1 ⟨1, by simp [DataW.trod, Value.cells, ht2]⟩
  · rw [List.append_nil, hsf]
    exact trodAll_below hlo hb _ _ _ _ hr hA fun x hx => hA.lt x hx
  · rw [List.append_nil, hsf, hvars]
    rfl

end
end Go.Proofs.Ytnpdeecoejabgaa
