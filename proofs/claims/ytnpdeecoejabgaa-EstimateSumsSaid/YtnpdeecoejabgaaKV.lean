/- THE ABSTRACT MACHINE, 21: regions that draw the order of their operations. What an operation looks at. -/
import Derived.Test.YtnpdeecoejabgaaKU
set_option linter.unusedSimpArgs false
set_option linter.unusedVariables false
namespace Go.Proofs.Ytnpdeecoejabgaa
open Go Go.RowKit

def optL : Option AX → List AX
  | some x => [x]
  | none => []

/-- The operands of an operation. -/
def opsOf : AOp → List AX
  | .mov x | .ld _ _ x | .box _ _ _ x | .nck x | .un _ x | .cvi _ x | .cvs x | .fad x _ | .fld _ _ _ x | .rng x | .nxt x | .ent x | .ext x _ | .lens x | .lent x | .lenm x | .cap x | .isn x => [x]
  | .pick c a b => [c, a, b]
  | .bld _ ps => ps.map fun p => p.2.2
  | .bsl _ _ _ _ ps => ps.map fun p => p.2
  | .st _ a x => [a, x]
  | .bin _ x y | .eqb _ x y | .eqs _ _ x y | .eqp _ x y | .msl _ _ _ _ x y | .iad _ x y | .iaa _ _ x y | .ixs x y | .ixa _ _ _ x y | .app _ _ _ _ x y => [x, y]
  | .slc _ x lo hi mx => x :: (optL lo ++ optL hi ++ optL mx)
  | .slt x lo hi | .sla _ _ x lo hi => x :: (optL lo ++ optL hi)
  | .lkp _ _ _ _ x k _ => [x, k]
  | .mup _ _ m k x => [m, k, x]
  | .mkm r => optL r
  | .call _ xs => xs
  | .callv f xs => f :: xs
  | .mm _ xs => xs
  | .mkf _ xs => xs
  | .alloc _ _ _ | .lenc _ | .bad _ => []

/-- Operations that look at their operands alone, and turn nothing. -/
def plainOp : AOp → Bool
  | .mov _ | .pick _ _ _ | .bld _ _ | .nck _ | .bin _ _ _ | .eqb _ _ _ | .eqs _ _ _ _ | .eqp _ _ _ | .un _ _ | .cvi _ _ | .cvs _ | .slt _ _ _ | .fad _ _ | .fld _ _ _ _ | .iaa _ _ _ _ | .ixs _ _ | .ixa _ _ _ _ _ | .ext _ _ | .lens _ | .lent _ | .lenc _ | .mm _ _ | .mkf _ _ => true
  | _ => false

/-- Operations that turn nothing. -/
def quietOp : AOp → Bool
  | .ld _ _ _ | .iad _ _ _ | .slc _ _ _ _ _ | .lkp _ _ _ _ _ _ _ | .lenm _ | .ent _ => true
  | op => plainOp op

/-- Operations with one outcome. -/
def detOp : AOp → Bool
  | .call .. | .callv .. | .cap _ | .isn _ | .nxt _ => false
  | _ => true

section
variable {t t' : Nat → AV} {g g' : Nat → Nat} {o o' : Nat → AO}

theorem optI_ev {σ σ' : ASt} {x : Option AX} (h : ∀ y ∈ optL x, σ.ev y = σ'.ev y) : optI σ x = optI σ' x := by
  cases x with
  | none => rfl
  | some x => simp only [optI, h x (by simp [optL])]

theorem elems_t {sz : Nat} {c : AC} : elemsOf ⟨t, g, o⟩ sz c = elemsOf ⟨t', g, o⟩ sz c := by cases c <;> rfl

theorem map_ev {α : Type} {σ σ' : ASt} {β : Type} (f : α → AV → β) (k : α → AX) (l : List α) (h : ∀ x ∈ l.map k, σ.ev x = σ'.ev x) : l.map (fun p => f p (σ.ev (k p))) = l.map fun p => f p (σ'.ev (k p)) :=
  List.map_congr_left fun p hp => by rw [h _ (List.mem_map_of_mem hp)]

/-- An operation looks at no slot but its operands'. -/
theorem det_t {op : AOp} (h : ∀ x ∈ opsOf op, ASt.ev ⟨t, g, o⟩ x = ASt.ev ⟨t', g, o⟩ x) (d : Nat) : det ⟨t, g, o⟩ d op = det ⟨t', g, o⟩ d op := by
  cases op with
  | bld z ps =>
    have := map_ev (fun (p : Nat × Nat × AX) v => (p.1, p.2.1, v)) (fun p => p.2.2) ps h
    simp only [det, this]
  | bsl E sz n z ps =>
    have := map_ev (fun (p : Nat × AX) v => (p.1, v)) (fun p => p.2) ps h
    simp only [det, this]
  | mm m xs =>
    have := map_ev (fun (p : AX) v => v) (fun p => p) xs (by simpa [opsOf] using h)
    simp only [det, this]
  | mkf f xs =>
    have := map_ev (fun (p : AX) v => oneCell? v) (fun p => p) xs (by simpa [opsOf] using h)
    simp only [det, this]
  | slc sz x lo hi mx =>
    simp only [opsOf, List.mem_cons, List.mem_append] at h
    have h1 := h x (.inl rfl)
    have h2 := optI_ev (x := lo) fun y hy => h y (.inr (.inl (.inl hy)))
    have h3 := optI_ev (x := hi) fun y hy => h y (.inr (.inl (.inr hy)))
    cases mx with
    | none =>
      simp only [det, h1, h2, h3]
      generalize optI ⟨t', g, o⟩ lo = a
      generalize optI ⟨t', g, o⟩ hi = b
      cases a <;> cases b <;> rfl
    | some m =>
      have h4 := h m (.inr (.inr (by simp [optL])))
      simp only [det, h1, h2, h3]
      generalize optI ⟨t', g, o⟩ lo = a
      generalize optI ⟨t', g, o⟩ hi = b
      cases a <;> cases b <;> simp only [h4]
  | slt x lo hi =>
    simp only [opsOf, List.mem_cons, List.mem_append] at h
    have h1 := h x (.inl rfl)
    have h2 := optI_ev (x := lo) fun y hy => h y (.inr (.inl hy))
    have h3 := optI_ev (x := hi) fun y hy => h y (.inr (.inr hy))
    simp only [det, h1, h2, h3]
  | app E sz b z s x =>
    simp only [opsOf, List.mem_cons, List.not_mem_nil, or_false, forall_eq_or_imp, forall_eq] at h
    simp only [det, h.1, h.2, elems_t (t := t) (t' := t')]
  | lkp ks kagg agg z x k ok =>
    simp only [opsOf, List.mem_cons, List.not_mem_nil, or_false, forall_eq_or_imp, forall_eq] at h
    have hm : ∀ v, mapOf ⟨t, g, o⟩ v = mapOf ⟨t', g, o⟩ v := fun v => by unfold mapOf; rfl
    simp only [det, h, hm]
  | mkm r => cases r <;> rfl
  | sla => rfl
  | call => rfl
  | callv => rfl
  | cap => rfl
  | nxt => rfl
  | bad => rfl
  | lenc => rfl
  | alloc => rfl
  | _ =>
    simp only [opsOf, List.mem_cons, List.not_mem_nil, or_false, forall_eq_or_imp, forall_eq] at h
    simp only [det, h]

/-- A plain operation looks at no object. -/
theorem det_plain {op : AOp} (hp : plainOp op = true) (d d' : Nat) : det ⟨t, g, o⟩ d op = det ⟨t, g', o'⟩ d' op := by
  cases op <;> first | rfl | (simp [plainOp] at hp; done)

def rg (A : List Nat) (g : Nat → Nat) (k : Nat) : Nat := if k ∈ A then g k else 0
def ro (A : List Nat) (o : Nat → AO) (k : Nat) : AO := if k ∈ A then o k else .no

theorem ev_ro {x : AX} : ASt.ev ⟨t, g, o⟩ x = ASt.ev ⟨t, g', o'⟩ x := by cases x <;> rfl
theorem optI_ro {x : Option AX} : optI ⟨t, g, o⟩ x = optI ⟨t, g', o'⟩ x := by cases x with
  | none => rfl
  | some x => cases x <;> rfl

theorem elems_ro {A : List Nat} {sz : Nat} {c : AC} {xs : List (List AC)} (h : elemsOf ⟨t, rg A g, ro A o⟩ sz c = some xs) : elemsOf ⟨t, g, o⟩ sz c = some xs := by
  cases c with
  | view k q lo n =>
    by_cases hk : k ∈ A
    · simpa only [elemsOf, elemsRaw, rg, ro, if_pos hk] using h
    · simp [elemsOf, elemsRaw, rg, ro, hk] at h
  | d c => cases c <;> exact h
  | _ => exact h

theorem map_ro {A : List Nat} {v : AV} {xs : Bool × Bool × List (List C × List C)} (h : mapOf ⟨t, rg A g, ro A o⟩ v = some xs) : mapOf ⟨t, g, o⟩ v = some xs := by
  unfold mapOf at h ⊢
  split at h
  · exact h
  · rename_i k q
    by_cases hk : k ∈ A
    · simpa only [rg, ro, if_pos hk] using h
    · simp [rg, ro, hk] at h
  · cases h

/-- What an operation does while it sees some objects alone. -/
theorem det_ro {A : List Nat} {op : AOp} {d : Nat} {e : Eff} (hd : d ∈ A) (h : det ⟨t, rg A g, ro A o⟩ d op = some e) : det ⟨t, g, o⟩ d op = some e := by
  have gd : rg A g d = g d := by simp [rg, hd]
  cases op with
  | alloc E agg z => simpa only [det, gd] using h
  | mkm r => cases r with
    | none => simpa only [det, gd] using h
    | some x => exact h
  | box E agg n x =>
    simp only [det, gd, ev_ro (g := rg A g) (o := ro A o) (g' := g) (o' := o)] at h ⊢; exact h
  | bsl E sz n z ps =>
    have he : (fun p : Nat × AX => (p.1, ASt.ev ⟨t, rg A g, ro A o⟩ p.2)) = fun p => (p.1, ASt.ev ⟨t, g, o⟩ p.2) := funext fun p => by rw [ev_ro (g := rg A g) (o := ro A o) (g' := g) (o' := o)]
    simp only [det, gd, he] at h ⊢; exact h
  | msl E sz b z n c =>
    simp only [det, gd, ev_ro (g := rg A g) (o := ro A o) (g' := g) (o' := o)] at h ⊢; exact h
  | rng x =>
    simp only [det, gd, ev_ro (g := rg A g) (o := ro A o) (g' := g) (o' := o)] at h ⊢; exact h
  | ld agg n x =>
    simp only [det, ev_ro (g := rg A g) (o := ro A o) (g' := g) (o' := o)] at h ⊢
    split at h
    · exact h
    · rename_i k q i off _
      by_cases hk : k ∈ A
      · simpa only [rg, ro, if_pos hk] using h
      · simp [rg, ro, hk] at h
    · cases h
  | st n x y =>
    simp only [det, ev_ro (g := rg A g) (o := ro A o) (g' := g) (o' := o)] at h ⊢
    split at h
    · rename_i k q i off _ _ _
      by_cases hk : k ∈ A
      · simpa only [rg, ro, if_pos hk] using h
      · simp [rg, ro, hk] at h
    · cases h
  | iad sz x i =>
    simp only [det, ev_ro (g := rg A g) (o := ro A o) (g' := g) (o' := o)] at h ⊢
    split at h
    · exact h
    · rename_i k q lo n j _ _
      by_cases hk : k ∈ A
      · simpa only [rg, ro, if_pos hk] using h
      · simp [rg, ro, hk] at h
    · cases h
  | slc sz x lo hi mx =>
    simp only [det, ev_ro (g := rg A g) (o := ro A o) (g' := g) (o' := o), optI_ro (g := rg A g) (o := ro A o) (g' := g) (o' := o)] at h ⊢
    split at h
    · split at h
      · exact h
      · rename_i k q l n _
        by_cases hk : k ∈ A
        · simpa only [rg, ro, if_pos hk] using h
        · simp [rg, ro, hk] at h
      · exact h
      · cases h
    · exact h
    · cases h
  | lenm x =>
    simp only [det, ev_ro (g := rg A g) (o := ro A o) (g' := g) (o' := o)] at h ⊢
    split at h
    · exact h
    · rename_i k q _
      by_cases hk : k ∈ A
      · simpa only [rg, ro, if_pos hk] using h
      · simp [rg, ro, hk] at h
    · cases h
  | ent x =>
    simp only [det, ev_ro (g := rg A g) (o := ro A o) (g' := g) (o' := o)] at h ⊢
    split at h
    · rename_i k q _
      by_cases hk : k ∈ A
      · simpa only [rg, ro, if_pos hk] using h
      · simp [rg, ro, hk] at h
    · cases h
  | lkp ks kagg agg z x k ok =>
    simp only [det, ev_ro (g := rg A g) (o := ro A o) (g' := g) (o' := o)] at h ⊢
    split at h
    · rename_i ka va es kc hes hkc
      rw [map_ro hes, hkc]
      exact h
    · cases h
  | mup ks kagg m k x =>
    simp only [det, ev_ro (g := rg A g) (o := ro A o) (g' := g) (o' := o)] at h ⊢
    split at h
    · rename_i p q _ _ _ _ _
      by_cases hk : p ∈ A
      · simpa only [rg, ro, if_pos hk] using h
      · simp [rg, ro, hk] at h
    · cases h
  | app E sz b z s x =>
    simp only [det, gd, ev_ro (g := rg A g) (o := ro A o) (g' := g) (o' := o)] at h ⊢
    split at h
    · rename_i xc _
      split at h
      · rename_i new hnew
        rw [elems_ro hnew]
        split at h
        · exact h
        · rename_i k q n _
          by_cases hk : k ∈ A
          · simpa only [rg, ro, if_pos hk] using h
          · simp [rg, ro, hk] at h
        · cases h
      · cases h
    · cases h
  | _ => exact h

theorem quiet_upd {σ : ASt} {op : AOp} (hq : quietOp op = true) {d : Nat} {e : Eff} (h : det σ d op = some e) : e.2 = [] := by
  cases op <;> first | (simp [quietOp, plainOp] at hq; done) | skip
  all_goals
    simp only [det] at h
    repeat' split at h
    all_goals first | (cases h; done) | (cases h; rfl) | (obtain ⟨_, _, rfl⟩ := Option.map_eq_some_iff.1 h; rfl)

end

/-- The slots of an operand. -/
def axS : AX → List Nat
  | .t n => [n]
  | _ => []
/-- The slots that an operation looks at. -/
def rdS (r : AR) : List Nat := (opsOf r.op).flatMap axS ++ (match r.grd with | some (s, _) => [s] | none => [])

def nmR (r : AR) : Nat := r.dst.getD 999999

/-- The objects that an annotation lets an operation see: 1000000 + k stands for an object k that is read alone. -/
def vis (A : List Nat) : List Nat := A.map fun k => if k < 1000000 then k else k - 1000000
/-- Those that it may turn. -/
def wrs (A : List Nat) : List Nat := A.filter fun k => decide (k < 1000000)

theorem wrs_vis {A : List Nat} {k : Nat} (h : k ∈ wrs A) : k ∈ vis A := by
  simp only [wrs, List.mem_filter, decide_eq_true_eq] at h
  exact List.mem_map.2 ⟨k, h.1, if_pos h.2⟩

def coreA (A : Option (List Nat)) (σ : ASt) (r : AR) : Option Eff :=
  match A with
  | none => det σ (nmR r) r.op
  | some A => if nmR r ∈ wrs A then match det ⟨σ.t, rg (vis A) σ.g, ro (vis A) σ.o⟩ (nmR r) r.op with
      | some e => if e.2.all (fun u => decide (u.1 ∈ wrs A)) then some e else none
      | none => none
    else none

/-- What an operation with one outcome does. A: the objects that it may see. -/
def effA (A : Option (List Nat)) (σ : ASt) (r : AR) : Option Eff :=
  match r.grd with
  | none => coreA A σ r
  | some (s, b) => match σ.t s with
    | .one (.d (.bool b')) => if b' = b then coreA A σ r else some (.tup [], [])
    | .tup [] => some (.tup [], [])
    | _ => none

section
variable {σ σ' : ASt} {r : AR} {A : Option (List Nat)}

theorem ev_slots {x : AX} (h : ∀ k ∈ axS x, σ.t k = σ'.t k) : σ.ev x = σ'.ev x := by
  cases x with
  | t n => exact h n (by simp [axS])
  | c k => rfl
  | f n => rfl

/-- The objects that an operation sees are the same. -/
def SameO (A : Option (List Nat)) (op : AOp) (σ σ' : ASt) : Prop :=
  plainOp op = true ∨ (σ.g = σ'.g ∧ σ.o = σ'.o) ∨ ∃ B, A = some B ∧ ∀ k ∈ vis B, σ.g k = σ'.g k ∧ σ.o k = σ'.o k

theorem core_congr (hs : ∀ k ∈ rdS r, σ.t k = σ'.t k) (ho : SameO A r.op σ σ') : coreA A σ r = coreA A σ' r := by
  obtain ⟨t, g, o⟩ := σ
  obtain ⟨t', g', o'⟩ := σ'
  have hev : ∀ (g : Nat → Nat) (o : Nat → AO), ∀ x ∈ opsOf r.op, ASt.ev ⟨t, g, o⟩ x = ASt.ev ⟨t', g, o⟩ x := fun g o x hx => ev_slots fun k hk => hs k (List.mem_append_left _ (List.mem_flatMap.2 ⟨x, hx, hk⟩))
  cases A with
  | none =>
    simp only [coreA]
    rw [det_t (hev g o)]
    rcases ho with hp | ⟨h1, h2⟩ | ⟨B, h1, _⟩
    · exact det_plain hp _ _
    · simp only at h1 h2; rw [h1, h2]
    · cases h1
  | some B =>
    simp only [coreA]
    have : det ⟨t, rg (vis B) g, ro (vis B) o⟩ (nmR r) r.op = det ⟨t', rg (vis B) g', ro (vis B) o'⟩ (nmR r) r.op := by
      rw [det_t (hev _ _)]
      rcases ho with hp | ⟨h1, h2⟩ | ⟨B', h1, h2⟩
      · exact det_plain hp _ _
      · simp only at h1 h2; rw [h1, h2]
      · cases h1
        have e1 : rg (vis B) g = rg (vis B) g' := funext fun k => by unfold rg; split <;> first | exact (h2 k ‹_›).1 | rfl
        have e2 : ro (vis B) o = ro (vis B) o' := funext fun k => by unfold ro; split <;> first | exact (h2 k ‹_›).2 | rfl
        rw [e1, e2]
    rw [this]

theorem eff_congr (hs : ∀ k ∈ rdS r, σ.t k = σ'.t k) (ho : SameO A r.op σ σ') : effA A σ r = effA A σ' r := by
  unfold effA
  rw [core_congr hs ho]
  split
  · rfl
  · rename_i s b hg
    rw [hs s (by simp [rdS, hg])]

theorem core_det {e : Eff} (h : coreA A σ r = some e) : det σ (nmR r) r.op = some e ∧ ∀ B, A = some B → ∀ u ∈ e.2, u.1 ∈ wrs B := by
  cases A with
  | none => exact ⟨h, fun B hB => by cases hB⟩
  | some B =>
    simp only [coreA] at h
    split at h
    · rename_i hd
      split at h
      · rename_i e' he
        split at h
        · rename_i hall
          cases h
          refine ⟨det_ro (wrs_vis hd) he, fun B' hB => ?_⟩
          cases hB
          simpa using hall
        · cases h
      · cases h
    · cases h

theorem eff_names {e : Eff} (h : effA A σ r = some e) : (quietOp r.op = true → e.2 = []) ∧ ∀ B, A = some B → ∀ u ∈ e.2, u.1 ∈ wrs B := by
  unfold effA at h
  split at h
  · exact ⟨fun hq => quiet_upd hq (core_det h).1, (core_det h).2⟩
  · split at h
    · split at h
      · exact ⟨fun hq => quiet_upd hq (core_det h).1, (core_det h).2⟩
      · cases h; exact ⟨fun _ => rfl, fun _ _ u hu => by cases hu⟩
    · cases h; exact ⟨fun _ => rfl, fun _ _ u hu => by cases hu⟩
    · cases h

theorem core_step {P : Program} {pk : Option Nat} {d : Nat} {op : AOp} {e : Eff} {K : Eff → Prop} (h : det σ d op = some e) (hK : K e) : opWp P pk σ d op K := by
  unfold opWp
  split <;> first | (cases h; done) | exact ⟨e, h, hK⟩

theorem eff_step {P : Program} {pk : Option Nat} {e : Eff} {K : ASt → Prop} (h : effA A σ r = some e) (hK : K (σ.put r.dst e)) : stepWp P pk σ r K := by
  have hop : ∀ e', coreA A σ r = some e' → K (σ.put r.dst e') → opWp P pk σ (r.dst.getD 999999) r.op fun e => K (σ.put r.dst e) := fun e' he hk => core_step (core_det he).1 hk
  unfold effA at h
  unfold stepWp
  split at h
  · rename_i hg; rw [hg]; exact hop e h hK
  · rename_i s b hg
    rw [hg]
    dsimp only
    split at h
    · rename_i b' hs
      rw [hs]
      dsimp only
      split at h
      · rename_i hb; rw [if_pos hb]; exact hop e h hK
      · rename_i hb; rw [if_neg hb]; cases h; exact hK
    · rename_i hs; rw [hs]; cases h; exact hK
    · cases h
end

theorem putG_ne (us : List (Nat × Nat × AO)) : ∀ (g : Nat → Nat) {k : Nat}, (∀ u ∈ us, u.1 ≠ k) → putG g us k = g k := by
  induction us with
  | nil => intro g k _; rfl
  | cons u us ih =>
    intro g k h
    simp only [putG]
    rw [ih _ fun v hv => h v (by simp [hv]), upd_ne _ _ fun e => h u (by simp) e.symm]
theorem putO_ne (us : List (Nat × Nat × AO)) : ∀ (o : Nat → AO) {k : Nat}, (∀ u ∈ us, u.1 ≠ k) → putO o us k = o k := by
  induction us with
  | nil => intro o k _; rfl
  | cons u us ih =>
    intro o k h
    simp only [putO]
    rw [ih _ fun v hv => h v (by simp [hv]), upd_ne _ _ fun e => h u (by simp) e.symm]
theorem putG_at (us : List (Nat × Nat × AO)) : ∀ (g g' : Nat → Nat) {k : Nat}, (∃ u ∈ us, u.1 = k) → putG g us k = putG g' us k := by
  induction us with
  | nil => intro g g' k ⟨u, hu, _⟩; cases hu
  | cons u us ih =>
    intro g g' k h
    simp only [putG]
    by_cases hk : ∃ v ∈ us, v.1 = k
    · exact ih _ _ hk
    · have hne : ∀ v ∈ us, v.1 ≠ k := fun v hv e => hk ⟨v, hv, e⟩
      obtain ⟨v, hv, e⟩ := h
      rcases List.mem_cons.1 hv with rfl | hv
      · rw [putG_ne us _ hne, putG_ne us _ hne, ← e, upd_same, upd_same]
      · exact absurd ⟨v, hv, e⟩ hk
theorem putO_at (us : List (Nat × Nat × AO)) : ∀ (o o' : Nat → AO) {k : Nat}, (∃ u ∈ us, u.1 = k) → putO o us k = putO o' us k := by
  induction us with
  | nil => intro g g' k ⟨u, hu, _⟩; cases hu
  | cons u us ih =>
    intro g g' k h
    simp only [putO]
    by_cases hk : ∃ v ∈ us, v.1 = k
    · exact ih _ _ hk
    · have hne : ∀ v ∈ us, v.1 ≠ k := fun v hv e => hk ⟨v, hv, e⟩
      obtain ⟨v, hv, e⟩ := h
      rcases List.mem_cons.1 hv with rfl | hv
      · rw [putO_ne us _ hne, putO_ne us _ hne, ← e, upd_same, upd_same]
      · exact absurd ⟨v, hv, e⟩ hk

theorem put_comm (σ : ASt) {d d' : Option Nat} {e e' : Eff} (hd : d = none ∨ d' = none ∨ d ≠ d') (hn : ∀ u ∈ e.2, ∀ v ∈ e'.2, u.1 ≠ v.1) : (σ.put d e).put d' e' = (σ.put d' e').put d e := by
  have ht : putT (putT σ.t d e.1) d' e'.1 = putT (putT σ.t d' e'.1) d e.1 := by
    cases d with
    | none => rfl
    | some d =>
      cases d' with
      | none => rfl
      | some d' =>
        have hne : d ≠ d' := by rcases hd with h | h | h <;> first | cases h | exact fun e => h (by rw [e])
        funext k
        simp only [putT, upd]
        by_cases h1 : k = d' <;> by_cases h2 : k = d <;> simp_all
  have hg : putG (putG σ.g e.2) e'.2 = putG (putG σ.g e'.2) e.2 := by
    funext k
    by_cases h1 : ∃ u ∈ e.2, u.1 = k
    · have h2 : ∀ v ∈ e'.2, v.1 ≠ k := fun v hv he => by obtain ⟨u, hu, hue⟩ := h1; exact hn u hu v hv (by rw [hue, he])
      rw [putG_ne _ _ h2]; exact putG_at e.2 _ _ h1
    · have h1' : ∀ u ∈ e.2, u.1 ≠ k := fun u hu he => h1 ⟨u, hu, he⟩
      rw [putG_ne e.2 _ h1']
      by_cases h2 : ∃ v ∈ e'.2, v.1 = k
      · exact putG_at _ _ _ h2
      · have h2' : ∀ v ∈ e'.2, v.1 ≠ k := fun u hu he => h2 ⟨u, hu, he⟩
        rw [putG_ne _ _ h2', putG_ne _ _ h2', putG_ne _ _ h1']
  have ho : putO (putO σ.o e.2) e'.2 = putO (putO σ.o e'.2) e.2 := by
    funext k
    by_cases h1 : ∃ u ∈ e.2, u.1 = k
    · have h2 : ∀ v ∈ e'.2, v.1 ≠ k := fun v hv he => by obtain ⟨u, hu, hue⟩ := h1; exact hn u hu v hv (by rw [hue, he])
      rw [putO_ne _ _ h2]; exact putO_at e.2 _ _ h1
    · have h1' : ∀ u ∈ e.2, u.1 ≠ k := fun u hu he => h1 ⟨u, hu, he⟩
      rw [putO_ne e.2 _ h1']
      by_cases h2 : ∃ v ∈ e'.2, v.1 = k
      · exact putO_at _ _ _ h2
      · have h2' : ∀ v ∈ e'.2, v.1 ≠ k := fun u hu he => h2 ⟨u, hu, he⟩
        rw [putO_ne _ _ h2', putO_ne _ _ h2', putO_ne _ _ h1']
  simp only [ASt.put, ht, hg, ho]


end Go.Proofs.Ytnpdeecoejabgaa
