/- THE ABSTRACT MACHINE, 26: labels: a state is brought into a form of its own; loops and joins over labels. -/
import Derived.Test.YtnpdeecoejabgaaLA
set_option linter.unusedSimpArgs false
set_option linter.unusedVariables false
namespace Go.Proofs.Ytnpdeecoejabgaa
open Go Go.RowKit

def look {α : Type} (d : α) : List (Nat × α) → Nat → α
  | [], _ => d
  | p :: r, k => if k = p.1 then p.2 else look d r k

/-- An object of a label. -/
inductive LO where
  | pure (l : Bool) (E sz : Nat) (ys : List (List C))
  | expl (l : Bool) (E sz : Nat) (xs : List (List AC))
  | map (l : Bool) (ka va : Bool) (es : List (List C × List C))
  | iter (ka va : Bool) (left : List (List C × List C))

def LO.ao : LO → AO
  | .pure l E sz ys => .row l E sz (dmm ys)
  | .expl l E sz xs => .row l E sz xs
  | .map l ka va es => .map l ka va es
  | .iter ka va left => .iter ka va left none

/-- The label's state. -/
def labS (T : List (Nat × AV)) (O : List (Nat × LO)) : ASt := ⟨look .any T, fun _ => 0, look .no (O.map fun p => (p.1, p.2.ao))⟩

def isD : AC → Bool
  | .d _ => true
  | _ => false

/-- What a cell of the label was before. F: the names: each object's name, and what it was called (none: a nil slice). -/
def preC (F : List (Nat × Option Nat)) (g : Nat → Nat) : AC → Option AC
  | .d c => some (.d c)
  | .nils => some .nils
  | .view k q lo n => match q, look none (F.map fun p => (p.1, some p.2)) k with
    | 0, some (some j) => some (.view j (g j) lo n)
    | 0, some none => match lo, n with
      | 0, 0 => some .nils
      | _, _ => none
    | _, _ => none
  | .ref k q i off => match q, look none (F.map fun p => (p.1, some p.2)) k with
    | 0, some (some j) => some (.ref j (g j) i off)
    | _, _ => none
  | .mpr k q => match q, look none (F.map fun p => (p.1, some p.2)) k with
    | 0, some (some j) => some (.mpr j (g j))
    | _, _ => none
  | .itr k q => match q, look none (F.map fun p => (p.1, some p.2)) k with
    | 0, some (some j) => some (.itr j (g j))
    | _, _ => none
  | .fn f caps => if caps.all isD then some (.fn f caps) else none

def preV (F : List (Nat × Option Nat)) (g : Nat → Nat) : AV → Option AV
  | .one c => (preC F g c).map .one
  | .agg cs => (allSome (cs.map (preC F g))).map .agg
  | .tup [] => some (.tup [])
  | _ => none

def preO (F : List (Nat × Option Nat)) (g : Nat → Nat) : LO → Option AO
  | .pure l E sz ys => some (.row l E sz (dmm ys))
  | .expl l E sz xs => (allSome (xs.map fun x => allSome (x.map (preC F g)))).map (.row l E sz)
  | .map l ka va es => some (.map l ka va es)
  | .iter ka va left => some (.iter ka va left none)

/-- What a label forgets: the kinds of an empty map; an iterator's place. -/
def normO : AO → AO
  | .map l _ _ [] => .map l false false []
  | .iter ka va left _ => .iter ka va left none
  | x => x

/-- A nil slice where pure data are asked for. -/
def nzC : AC → AC → AC
  | .d _, .nils => .d (.sl [])
  | _, c => c
def nzL : List AC → List AC → List AC
  | c' :: r', c :: r => nzC c' c :: nzL r' r
  | _, r => r
def nzV : AV → AV → AV
  | .one c', .one c => .one (nzC c' c)
  | .agg cs', .agg cs => .agg (nzL cs' cs)
  | _, v => v
def nzX : List (List AC) → List (List AC) → List (List AC)
  | c' :: r', c :: r => nzL c' c :: nzX r' r
  | _, r => r
def nzO : LO → AO → AO
  | .expl _ _ _ xs, .row l E sz ys => .row l E sz (nzX xs ys)
  | _, x => normO x

def normP : LO → AO → AO
  | .expl _ _ _ _, x => x
  | _, x => normO x

def isNew : LO → Bool
  | .pure true _ _ [] => true
  | _ => false

/-- State σ can be seen as the label's. -/
structure Sim (σ : ASt) (F : List (Nat × Option Nat)) (T : List (Nat × AV)) (O : List (Nat × LO)) : Prop where
  slots : T.map (fun p => some (nzV p.2 (σ.t p.1))) = T.map fun p => preV F σ.g p.2
  objs : O.map (fun p => match look none F p.1 with | some j => some (nzO p.2 (σ.o j)) | none => if isNew p.2 then some .no else none) = O.map fun p => match look none F p.1 with | some _ => (preO F σ.g p.2).map (normP p.2) | none => some .no
  own : σ.g ownP = 0
  names : (F.all (fun p => (p.1 == ownP) == (p.2 == some ownP)) && ndup (F.filterMap (·.2)) && ndup (F.map (·.1)) && (F.map (·.1) == O.map (·.1))) = true

theorem look_map {α β : Type} (f : α → β) (d : α) (d' : β) (hd : f d = d') : ∀ (l : List (Nat × α)) (k : Nat), look d' (l.map fun p => (p.1, f p.2)) k = f (look d l k)
  | [], _ => hd.symm
  | p :: l, k => by
    simp only [List.map_cons, look]
    split
    · rfl
    · exact look_map f d d' hd l k

theorem look_mem {α : Type} {d : α} : ∀ {l : List (Nat × α)} {k : Nat}, (k, look d l k) ∈ l ∨ (look d l k = d ∧ ∀ p ∈ l, p.1 ≠ k)
  | [], _ => .inr ⟨rfl, by simp⟩
  | p :: l, k => by
    simp only [look]
    split
    · rename_i e; subst e; exact .inl (by simp)
    · rename_i e
      rcases look_mem (d := d) (l := l) (k := k) with h | ⟨h1, h2⟩
      · exact .inl (List.mem_cons_of_mem _ h)
      · exact .inr ⟨h1, fun q hq => by rcases List.mem_cons.1 hq with rfl | hq; exact fun h => e h.symm; exact h2 q hq⟩

theorem look_of_mem {α : Type} {d : α} : ∀ {l : List (Nat × α)} {p : Nat × α}, (l.map (·.1)).Nodup → p ∈ l → look d l p.1 = p.2
  | q :: l, p, hn, hp => by
    simp only [List.map_cons, List.nodup_cons] at hn
    simp only [look]
    rcases List.mem_cons.1 hp with rfl | hp
    · rw [if_pos rfl]
    · rw [if_neg (fun e => hn.1 (by rw [← e]; exact List.mem_map_of_mem (f := (·.1)) hp))]
      exact look_of_mem hn.2 hp

theorem map_eq_mem {α β : Type} {f g : α → β} : ∀ {l : List α}, l.map f = l.map g → ∀ x ∈ l, f x = g x
  | y :: l, h, x, hx => by
    simp only [List.map_cons, List.cons.injEq] at h
    rcases List.mem_cons.1 hx with rfl | hx
    · exact h.1
    · exact map_eq_mem h.2 x hx

section
variable {P : Program} {cx : Ctx} {μ : Nat → Option Nat} {σ : ASt} {a : Act} {w : World} {F : List (Nat × Option Nat)} {T : List (Nat × AV)} {O : List (Nat × LO)}

/-- The old name of an object of the label. -/
def oldN (F : List (Nat × Option Nat)) (O : List (Nat × LO)) (μ : Nat → Option Nat) (k : Nat) : Option Nat := (look none F k).bind μ

theorem names_spec (S : Sim σ F T O) : (∀ p ∈ F, (p.1 = ownP ↔ p.2 = some ownP)) ∧ (F.filterMap (·.2)).Nodup ∧ (F.map (·.1)).Nodup ∧ F.map (·.1) = O.map (·.1) := by
  have h := S.names
  simp only [Bool.and_eq_true, List.all_eq_true, beq_iff_eq] at h
  refine ⟨fun p hp => ?_, ndup_spec h.1.1.2, ndup_spec h.1.2, h.2⟩
  have := h.1.1.1 p hp
  constructor
  · intro e; rw [e] at this; simpa using this.symm
  · intro e; rw [e] at this; simpa using this

theorem inj_names {j : Nat} : ∀ {F : List (Nat × Option Nat)}, (F.filterMap (·.2)).Nodup → ∀ {p q : Nat × Option Nat}, p ∈ F → q ∈ F → p.2 = some j → q.2 = some j → p = q
  | r :: F, hn, p, q, hp, hq, h1, h2 => by
    have key : ∀ s ∈ F, s.2 = some j → r.2 = some j → False := fun s hs e1 e2 => by
      rw [List.filterMap_cons, e2] at hn
      simp only [List.nodup_cons] at hn
      exact hn.1 (List.mem_filterMap.2 ⟨s, hs, e1⟩)
    have hn' : (F.filterMap (·.2)).Nodup := by
      rw [List.filterMap_cons] at hn
      split at hn
      · exact hn
      · exact (List.nodup_cons.1 hn).2
    rcases List.mem_cons.1 hp with hp | hp <;> rcases List.mem_cons.1 hq with hq | hq
    · rw [hp, hq]
    · exact (key q hq h2 (hp ▸ h1)).elim
    · exact (key p hp h1 (hq ▸ h2)).elim
    · exact inj_names hn' hp hq h1 h2

/-- An object of the label: what it was. -/
theorem obj_spec (S : Sim σ F T O) (k : Nat) : (labS T O).o k = .no ∨ ∃ x, (labS T O).o k = x.ao ∧ (k, look none F k) ∈ F ∧ (k, x) ∈ O ∧
    ((∃ j y, look none F k = some j ∧ preO F σ.g x = some y ∧ nzO x (σ.o j) = normP x y) ∨ (look none F k = none ∧ isNew x = true)) := by
  obtain ⟨_, _, h3, h4⟩ := names_spec S
  rcases look_mem (d := AO.no) (l := O.map fun p => (p.1, p.2.ao)) (k := k) with h | ⟨h, _⟩
  · obtain ⟨p, hp, e⟩ := List.mem_map.1 h
    have hk : p.1 = k := congrArg Prod.fst e
    subst hk
    have e1 : look AO.no (O.map fun p => (p.1, p.2.ao)) p.1 = p.2.ao := by
      have hn : ((O.map fun p => (p.1, p.2.ao)).map (·.1)).Nodup := by rw [List.map_map]; rw [h4] at h3; exact h3
      exact look_of_mem (p := (p.1, p.2.ao)) hn (List.mem_map_of_mem (f := fun p : Nat × LO => (p.1, p.2.ao)) hp)
    have e2 : (p.1, look none F p.1) ∈ F := by
      have : p.1 ∈ F.map (·.1) := by rw [h4]; exact List.mem_map_of_mem (f := (·.1)) hp
      obtain ⟨q, hq, e⟩ := List.mem_map.1 this
      have := look_of_mem (d := none) h3 hq
      rw [e] at this
      rw [this, ← e]; exact hq
    refine .inr ⟨p.2, e1, e2, hp, ?_⟩
    have h5 := map_eq_mem S.objs p hp
    cases hj : look none F p.1 with
    | some j =>
      rw [hj] at h5
      dsimp only at h5
      obtain ⟨y, h6, h7⟩ := Option.map_eq_some_iff.1 h5.symm
      exact .inl ⟨j, y, rfl, h6, h7.symm⟩
    | none =>
      rw [hj] at h5
      refine .inr ⟨rfl, ?_⟩
      dsimp only at h5
      split at h5
      · assumption
      · cases h5
  · exact .inl h

theorem src_spec {x : LO} {y z : AO} {g : Nat → Nat} (h : preO F g x = some y) (hz : nzO x z = normP x y) : match x with
    | .pure l E sz ys => z = .row l E sz (dmm ys)
    | .expl l E sz xs => ∃ ys, z = .row l E sz ys ∧ allSome (xs.map fun x => allSome (x.map (preC F g))) = some (nzX xs ys)
    | .map l ka va es => z = .map l ka va es ∨ (es = [] ∧ ∃ ka' va', z = .map l ka' va' [])
    | .iter ka va left => ∃ cur, z = .iter ka va left cur := by
  cases x with
  | pure l E sz ys =>
    simp only [preO, Option.some.injEq] at h; subst h
    cases z with
    | map l ka va es => cases es <;> simp [nzO, normP, normO] at hz
    | row => simpa [nzO, normP, normO] using hz
    | _ => simp [nzO, normP, normO] at hz
  | expl l E sz xs =>
    simp only [preO, Option.map_eq_some_iff] at h
    obtain ⟨ws, hws, rfl⟩ := h
    cases z with
    | row l' E' sz' ys =>
      simp only [nzO, normP, AO.row.injEq] at hz
      obtain ⟨rfl, rfl, rfl, h4⟩ := hz
      exact ⟨ys, rfl, by rw [hws, h4]⟩
    | map l ka va es => cases es <;> simp [nzO, normP, normO] at hz
    | _ => simp [nzO, normP, normO] at hz
  | map l ka va es =>
    simp only [preO, Option.some.injEq] at h; subst h
    cases z with
    | map l' ka' va' es' =>
      cases es with
      | nil => cases es' <;> simp [nzO, normP, normO] at hz ⊢ <;> simp [hz]
      | cons => cases es' <;> simp [nzO, normP, normO] at hz ⊢ <;> simp [hz]
    | _ => cases es <;> simp [nzO, normP, normO] at hz
  | iter ka va left =>
    simp only [preO, Option.some.injEq] at h; subst h
    cases z with
    | iter ka' va' left' cur => simpa [nzO, normP, normO] using hz
    | map l ka va es => cases es <;> simp [nzO, normP, normO] at hz
    | _ => simp [nzO, normP, normO] at hz

theorem preO_live {x : LO} {y z : AO} {g : Nat → Nat} (h : preO F g x = some y) (hz : nzO x z = normP x y) : liveO x.ao = liveO z := by
  have := src_spec h hz
  cases x with
  | pure l E sz ys => dsimp only at this; subst this; rfl
  | expl l E sz xs => obtain ⟨_, rfl, _⟩ := this; rfl
  | map l ka va es => rcases this with rfl | ⟨rfl, _, _, rfl⟩ <;> rfl
  | iter ka va left => obtain ⟨_, rfl⟩ := this; rfl

theorem preO_like {x : LO} {y z : AO} {g : Nat → Nat} (h : preO F g x = some y) (hz : nzO x z = normP x y) (m : Option Nat) (w : World) : ObjLike z m w x.ao m w := by
  have := src_spec h hz
  cases x with
  | pure l E sz ys => dsimp only at this; subst this; exact ⟨fun _ _ _ h => h, fun _ _ _ h => h, fun _ h => h, fun _ h => h⟩
  | expl l E sz xs => obtain ⟨_, rfl, _⟩ := this; exact ⟨fun _ _ _ h => h, fun _ _ _ h => h, fun _ h => h, fun _ h => h⟩
  | map l ka va es => rcases this with rfl | ⟨rfl, _, _, rfl⟩ <;> exact ⟨fun _ _ _ h => h, fun _ _ _ h => h, fun _ h => h, fun _ h => h⟩
  | iter ka va left => obtain ⟨_, rfl⟩ := this; exact ⟨fun _ _ _ h => h, fun _ _ _ h => h, fun _ h => h, fun _ h => h⟩

theorem nzL_len : ∀ (a b : List AC), (nzL a b).length = b.length
  | [], _ => rfl
  | _ :: _, [] => rfl
  | _ :: a, _ :: b => by simp [nzL, nzL_len a b]
theorem nzL_get : ∀ {a b : List AC} {j : Nat} {c' c : AC}, a[j]? = some c' → b[j]? = some c → (nzL a b)[j]? = some (nzC c' c)
  | [], _, j, c', c, h, _ => by simp at h
  | _ :: _, [], j, c', c, _, h => by simp at h
  | x :: a, y :: b, 0, c', c, h, k => by simp at h k; simp [nzL, h, k]
  | x :: a, y :: b, j + 1, c', c, h, k => by
    simp only [List.getElem?_cons_succ] at h k
    simp only [nzL, List.getElem?_cons_succ]
    exact nzL_get h k
theorem nzX_len : ∀ (a b : List (List AC)), (nzX a b).length = b.length
  | [], _ => rfl
  | _ :: _, [] => rfl
  | _ :: a, _ :: b => by simp [nzX, nzX_len a b]
theorem nzX_get : ∀ {a b : List (List AC)} {j : Nat} {c' c : List AC}, a[j]? = some c' → b[j]? = some c → (nzX a b)[j]? = some (nzL c' c)
  | [], _, j, c', c, h, _ => by simp at h
  | _ :: _, [], j, c', c, _, h => by simp at h
  | x :: a, y :: b, 0, c', c, h, k => by simp at h k; simp [nzX, h, k]
  | x :: a, y :: b, j + 1, c', c, h, k => by
    simp only [List.getElem?_cons_succ] at h k
    simp only [nzX, List.getElem?_cons_succ]
    exact nzX_get h k

theorem sim_X (S : Sim σ F T O) {b : Nat} (h : Xs cx.X0 (labS T O).o (oldN F O μ) b) : Xs cx.X0 σ.o μ b := by
  rcases h with h | ⟨k, h1, h2⟩
  · exact .inl h
  · rcases obj_spec S k with h3 | ⟨x, e1, _, _, ⟨j, y, e2, e3, e4⟩ | ⟨e2, _⟩⟩
    · rw [h3] at h1; cases h1
    · refine .inr ⟨j, ?_, ?_⟩
      · rw [← preO_live e3 e4, ← e1]; exact h1
      · simpa [oldN, e2] using h2
    · simp [oldN, e2] at h2

theorem look_some_none {F : List (Nat × Option Nat)} {k : Nat} {j : Option Nat} (h : look none (F.map fun p => (p.1, some p.2)) k = some j) : look none F k = j ∧ (k, j) ∈ F := by
  rcases look_mem (d := none) (l := F.map fun p => (p.1, some p.2)) (k := k) with h1 | ⟨h1, _⟩
  · rw [h] at h1
    obtain ⟨p, hp, e⟩ := List.mem_map.1 h1
    simp only [Prod.mk.injEq, Option.some.injEq] at e
    obtain ⟨rfl, rfl⟩ := e
    refine ⟨?_, hp⟩
    clear h1 hp
    induction F with
    | nil => simp [look] at h
    | cons q F ih =>
      simp only [List.map_cons, look] at h ⊢
      split at h
      · rename_i e; rw [if_pos e]; simpa using h
      · rename_i e; rw [if_neg e]; exact ih h
  · rw [h] at h1; cases h1

/-- Cells. -/
theorem sim_cell (S : Sim σ F T O) (hr : Rel cx μ σ a w) {c c' : AC} {v : Value} (hp : preC F σ.g c' = some (nzC c' c)) (h : RCl cx μ σ w c v) : RelC (labS T O).g (labS T O).o (oldN F O μ) w (Xs cx.X0 (labS T O).o (oldN F O μ)) c' v := by
  have hX : ∀ b, b < w.heap.size → ¬ Xs cx.X0 σ.o μ b → ¬ Xs cx.X0 (labS T O).o (oldN F O μ) b := fun b _ h1 h2 => h1 (sim_X S h2)
  have like : ∀ {k j : Nat}, look none (F.map fun p => (p.1, some p.2)) k = some (some j) → ObjLike (σ.o j) (μ j) w ((labS T O).o k) (oldN F O μ k) w := fun {k j} hk => by
    obtain ⟨e1, _⟩ := look_some_none hk
    have e2 : oldN F O μ k = μ j := by simp [oldN, e1]
    rcases obj_spec S k with h3 | ⟨x, e3, _, _, ⟨j', y, e4, e5, e6⟩ | ⟨e4, _⟩⟩
    · rw [h3]; exact ⟨fun _ _ _ _ => trivial, fun _ _ _ _ => trivial, fun _ _ => trivial, fun _ _ => trivial⟩
    · rw [e1] at e4; cases e4
      rw [e3, e2]; exact preO_like e5 e6 _ _
    · rw [e1] at e4; cases e4
  cases c' with
  | d x =>
    cases c with
    | nils =>
      simp only [preC, nzC, Option.some.injEq, AC.d.injEq] at hp; subst hp
      cases h with | nils ad => exact .d (.sl0 _ _)
    | d y =>
      simp only [preC, nzC, Option.some.injEq, AC.d.injEq] at hp; subst hp
      cases h with | d h => exact .d (h.mono (fun _ _ _ => rfl) hX)
    | _ => simp [preC, nzC] at hp
  | nils =>
    simp only [preC, nzC, Option.some.injEq] at hp; subst hp
    cases h with | nils ad => exact .nils ad
  | view k q lo n =>
    simp only [preC, nzC] at hp
    split at hp
    · rename_i j hk
      simp only [Option.some.injEq] at hp; subst hp
      cases h with
      | view h1 h2 h3 => exact .view (Nat.zero_le _) h2 fun _ => (like hk).1 _ _ _ (h3 rfl)
    · rename_i hk
      split at hp
      · simp only [Option.some.injEq] at hp; subst hp
        cases h with
        | nils ad =>
          refine .view (Nat.zero_le _) ⟨_, _, rfl⟩ fun _ => ?_
          obtain ⟨e1, _⟩ := look_some_none hk
          rcases obj_spec S k with h3 | ⟨x, e3, _, _, ⟨j', _, e4, e5, _⟩ | ⟨e4, e5⟩⟩
          · rw [h3]; trivial
          · rw [e1] at e4; cases e4
          · rw [e3]
            cases x with
            | pure l E sz ys => exact .inl ⟨by simp [oldN, e1], rfl, rfl, ad, rfl⟩
            | _ => simp [isNew] at e5
      · cases hp
    · cases hp
  | ref k q i off =>
    simp only [preC, nzC] at hp
    split at hp
    · rename_i j hk
      simp only [Option.some.injEq] at hp; subst hp
      cases h with
      | ref h1 h2 h3 => exact .ref (Nat.zero_le _) h2 fun _ => (like hk).2.1 _ _ _ (h3 rfl)
    · cases hp
  | mpr k q =>
    simp only [preC, nzC] at hp
    split at hp
    · rename_i j hk
      simp only [Option.some.injEq] at hp; subst hp
      cases h with
      | mpr h1 h2 h3 => exact .mpr (Nat.zero_le _) h2 fun _ => (like hk).2.2.1 _ (h3 rfl)
    · cases hp
  | itr k q =>
    simp only [preC, nzC] at hp
    split at hp
    · rename_i j hk
      simp only [Option.some.injEq] at hp; subst hp
      cases h with
      | itr h1 h2 h3 => exact .itr (Nat.zero_le _) h2 fun _ => (like hk).2.2.2 _ (h3 rfl)
    · cases hp
  | fn f caps =>
    simp only [preC, nzC] at hp
    split at hp
    · rename_i hd
      simp only [Option.some.injEq] at hp; subst hp
      cases h with
      | fn fv hl hc h =>
        refine .fn fv hl hc fun j c hj => ?_
        have h1 := h j c hj
        have h2 := List.all_eq_true.1 hd c (List.mem_of_getElem? hj)
        cases c with
        | d x => cases h1 with | d h1 => exact .d (h1.mono (fun _ _ _ => rfl) hX)
        | _ => simp [isD] at h2
    · cases hp

/-- A state that can be seen as the label's is the label's. -/
theorem Rel.sim (hr : Rel cx μ σ a w) (hp : cx.pk = some ownP) (hg : gcOk cx.gc) (S : Sim σ F T O) : Rel cx (oldN F O μ) (labS T O) a w := by
  obtain ⟨n1, n2, n3, n4⟩ := names_spec S
  have hX : ∀ b, b < w.heap.size → ¬ Xs cx.X0 σ.o μ b → ¬ Xs cx.X0 (labS T O).o (oldN F O μ) b := fun b _ h1 h2 => h1 (sim_X S h2)
  have hX' : ∀ b, ¬ Xs cx.X0 σ.o μ b → ¬ Xs cx.X0 (labS T O).o (oldN F O μ) b := fun b h1 h2 => h1 (sim_X S h2)
  have old : ∀ k b, liveO ((labS T O).o k) = true → oldN F O μ k = some b → ∃ j, (k, some j) ∈ F ∧ liveO (σ.o j) = true ∧ μ j = some b := fun k b h1 h2 => by
    rcases obj_spec S k with h3 | ⟨x, e3, e6, _, ⟨j, y, e4, e5, e7⟩ | ⟨e4, _⟩⟩
    · rw [h3] at h1; cases h1
    · exact ⟨j, e4 ▸ e6, by rw [← preO_live e5 e7, ← e3]; exact h1, by simpa [oldN, e4] using h2⟩
    · simp [oldN, e4] at h2
  refine { defers := hr.defers, sz := hr.sz, kept := hr.kept, x0 := hr.x0, tm := fun k => ?_, obj := fun k => ?_, inj := fun k k' b h1 h2 h3 h4 => ?_, lv := fun k b h1 h2 => ?_, gh := ?_, xo := fun k b h1 h2 h3 => ?_ }
  · rcases look_mem (d := (V.any : AV)) (l := T) (k := k) with h | ⟨h, _⟩
    · have h1 := map_eq_mem S.slots _ h
      dsimp only at h1
      have h2 := hr.tm k
      have e : (labS T O).t k = look .any T k := rfl
      rw [e]
      revert h1 h2
      generalize look V.any T k = x
      generalize σ.t k = y
      generalize a.tmps.getD k undef = u
      intro h1 h2
      cases x with
      | any => simp [preV] at h1
      | one c' =>
        cases y with
        | one c =>
          simp only [preV, nzV] at h1
          obtain ⟨c2, hc, e2⟩ := Option.map_eq_some_iff.1 h1.symm
          cases e2
          exact .one _ _ (sim_cell S hr hc (rv_one h2)) (rv_one h2).one
        | _ =>
          simp only [preV, nzV] at h1
          obtain ⟨_, _, e2⟩ := Option.map_eq_some_iff.1 h1.symm
          cases e2
      | agg cs' =>
        cases y with
        | agg cs =>
          simp only [preV, nzV] at h1
          obtain ⟨c2, hc, e2⟩ := Option.map_eq_some_iff.1 h1.symm
          cases e2
          have hs := allSome_get hc
          have hlen : cs'.length = cs.length := by rw [← hs.1, nzL_len]
          cases h2 with
          | agg _ vs hl hcs =>
            refine .agg _ _ (by rw [hlen]; exact hl) fun j c v hj hv => ?_
            have hlt : j < cs.length := by rw [← hlen]; exact (List.getElem?_eq_some_iff.1 hj).1
            have hcj := List.getElem?_eq_getElem hlt
            obtain ⟨c2, e1, e2⟩ := hs.2 j c hj
            rw [nzL_get hj hcj] at e1
            cases e1
            obtain ⟨e3, e4⟩ := hcs j _ v hcj hv
            exact ⟨sim_cell S hr e2 e3, e4⟩
        | _ =>
          simp only [preV, nzV] at h1
          obtain ⟨_, _, e2⟩ := Option.map_eq_some_iff.1 h1.symm
          cases e2
      | tup vs =>
        cases vs with
        | nil =>
          have : y = .tup [] := by cases y <;> simp only [preV, nzV, Option.some.injEq] at h1 <;> first | exact h1 | cases h1
          subst this
          cases h2 with | tup _ vs hl hcs => exact .tup _ _ hl fun j a v h => by simp at h
        | cons => simp [preV] at h1
    · have e : (labS T O).t k = look .any T k := rfl
      rw [e, h]; exact .any _
  · unfold RelO
    rcases obj_spec S k with h3 | ⟨x, e3, e6, _, ⟨j, y, e4, e5, e7⟩ | ⟨e4, e5⟩⟩
    · rw [h3]; trivial
    · have ho := hr.obj j
      have em : oldN F O μ k = μ j := by simp [oldN, e4]
      rw [e3, em]
      unfold RelO at ho
      have hsrc := src_spec e5 e7
      cases x with
      | pure l E sz ys =>
        dsimp only at hsrc
        rw [hsrc] at ho
        dsimp only [LO.ao] at ho ⊢
        rcases ho with ho | ⟨b, cur, cap, h1, h2, h3, h4, h5, h6, h7, h8, h9⟩
        · exact .inl ho
        · refine .inr ⟨b, cur, cap, h1, h2, h3, h4, h5, h6, h7, fun i x hi j c hj => ?_, fun hl => hX' b (h9 hl)⟩
          obtain ⟨v, hv1, hv2⟩ := h8 i x hi j c hj
          refine ⟨v, hv1, sim_cell S hr (c := c) ?_ hv2⟩
          rw [List.getElem?_map] at hi
          cases hy : ys[i]? with
          | none => rw [hy] at hi; cases hi
          | some y =>
            rw [hy] at hi; cases hi
            rw [List.getElem?_map] at hj
            cases hz : y[j]? with
            | none => rw [hz] at hj; cases hj
            | some z => rw [hz] at hj; cases hj; rfl
      | expl l E sz xs =>
        obtain ⟨ys, hz, hys⟩ := hsrc
        rw [hz] at ho
        dsimp only [LO.ao] at ho ⊢
        have hs := allSome_get hys
        have hlen : xs.length = ys.length := by rw [← hs.1, nzX_len]
        have row : ∀ i x, xs[i]? = some x → ∃ y, ys[i]? = some y ∧ allSome (x.map (preC F σ.g)) = some (nzL x y) ∧ x.length = y.length := fun i x hi => by
          have hlt : i < ys.length := by rw [← hlen]; exact (List.getElem?_eq_some_iff.1 hi).1
          have hyi := List.getElem?_eq_getElem hlt
          obtain ⟨c2, e1, e2⟩ := hs.2 i x hi
          rw [nzX_get hi hyi] at e1
          cases e1
          exact ⟨_, hyi, e2, by have := (allSome_get e2).1; rw [nzL_len] at this; exact this.symm⟩
        rcases ho with ⟨ho1, ho2⟩ | ⟨b, cur, cap, h1, h2, h3, h4, h5, h6, h7, h8, h9⟩
        · refine .inl ⟨ho1, ?_⟩
          rw [ho2] at hlen; exact List.length_eq_zero_iff.1 hlen
        · refine .inr ⟨b, cur, cap, h1, h2, h3, h4, h5, by rw [hlen]; exact h6, fun x hx => ?_, fun i x hi j c hj => ?_, fun hl => hX' b (h9 hl)⟩
          · obtain ⟨i, hi⟩ := List.getElem?_of_mem hx
            obtain ⟨y, e1, _, e2⟩ := row i x hi
            rw [e2]; exact h7 y (List.mem_of_getElem? e1)
          · obtain ⟨y, e1, e2, e6⟩ := row i x hi
            have hlt : j < y.length := by rw [← e6]; exact (List.getElem?_eq_some_iff.1 hj).1
            have hyj := List.getElem?_eq_getElem hlt
            obtain ⟨c', e7, e8⟩ := (allSome_get e2).2 j c hj
            rw [nzL_get hj hyj] at e7
            cases e7
            obtain ⟨v, hv1, hv2⟩ := h8 i y e1 j _ hyj
            exact ⟨v, hv1, sim_cell S hr e8 hv2⟩
      | map l ka va es =>
        rcases hsrc with hz | ⟨rfl, ka', va', hz⟩
        · rw [hz] at ho
          dsimp only [LO.ao] at ho ⊢
          obtain ⟨b, me, clock, h1, h2, h3, h4⟩ := ho
          exact ⟨b, me, clock, h1, h2, h3.mono (fun _ _ _ => rfl) hX, fun hl => hX' b (h4 hl)⟩
        · rw [hz] at ho
          dsimp only [LO.ao] at ho ⊢
          obtain ⟨b, me, clock, h1, h2, h3, h4⟩ := ho
          exact ⟨b, me, clock, h1, h2, ⟨h3.len, h3.born, h3.dist, fun i e m h => by simp at h, fun i e m h => by simp at h⟩, fun hl => hX' b (h4 hl)⟩
      | iter ka va left =>
        obtain ⟨cur0, hz⟩ := hsrc
        rw [hz] at ho
        dsimp only [LO.ao] at ho ⊢
        rcases ho with ⟨b, h1, h2, h3, _⟩ | ⟨b, m, seen, stepped, me, clock, es, ls, h1, h2, h3, h4, h5, h6, h7, h8, h9, _⟩
        · exact .inl ⟨b, h1, h2, h3, rfl⟩
        · exact .inr ⟨b, m, seen, stepped, me, clock, es, ls, h1, h2, hX' m h3, h4, h5.mono (fun _ _ _ => rfl) hX, h6, h7, h8, h9, fun e he => by cases he⟩
    · rw [e3]
      cases x with
      | pure l E sz ys =>
        cases ys with
        | nil => exact .inl ⟨by simp [oldN, e4], rfl⟩
        | cons => simp [isNew] at e5
      | _ => simp [isNew] at e5
  · obtain ⟨j, f1, f2, f3⟩ := old k b h1 h3
    obtain ⟨j', f4, f5, f6⟩ := old k' b h2 h4
    have := hr.inj j j' b f2 f5 f3 f6
    subst this
    have := inj_names n2 f1 f4 rfl rfl
    cases this; rfl
  · obtain ⟨j, f1, f2, f3⟩ := old k b h1 h2
    exact hr.lv j b f2 f3
  · rcases hg with ⟨x, hx⟩ | ⟨n, hx⟩
    · have := hr.gh
      rw [hx] at this ⊢
      exact sim_cell S hr (c := .d x) rfl this
    · have := hr.gh
      rw [hx] at this ⊢
      cases this with
      | view h1 h2 h3 =>
        refine .view (Nat.zero_le _) h2 fun _ => ?_
        have h4 := h3 S.own.symm
        rcases obj_spec S 900000 with h5 | ⟨x, e3, e6, _, ⟨j, y, e4, e5, e7⟩ | ⟨e4, e5⟩⟩
        · rw [h5]; trivial
        · have : some j = some ownP := by
            have := (n1 _ e6).1 rfl
            dsimp only at this
            rwa [e4] at this
          cases this
          rw [e3]
          have em : oldN F O μ 900000 = μ 900000 := by simp [oldN, e4]
          rw [em]
          exact (preO_like e5 e7 _ _).1 _ _ _ h4
        · have := (n1 _ e6).1 rfl
          dsimp only at this
          rw [e4] at this; cases this
  · obtain ⟨j, f1, f2, f3⟩ := old k b h1 h2
    have h4 := hr.xo j b f2 f3 h3
    rw [hp] at h4 ⊢
    have h5 : j = ownP := (Option.some.inj h4).symm
    rw [h5] at f1
    have := (n1 _ f1).2 rfl
    dsimp only at this
    rw [this]

end

section
variable {P : Program} {n : Nat} {σ : ASt} {Q : AE → ASt → Prop} {F : List (Nat × Option Nat)} {T : List (Nat × AV)} {O : List (Nat × LO)} {ac x y : ACode}

theorem AW.sim (S : Sim σ F T O) (h : AW P n (some ownP) ac (labS T O) Q) : AW P n (some ownP) ac σ Q :=
  AW.ghost (fun cx μ a w hp hg hr => ⟨_, hr.sim hp hg S⟩) h

/-- A state can be seen as a label's, for data of which N holds. -/
def Lab {S : Type} (T : S → List (Nat × AV)) (O : S → List (Nat × LO)) (N : S → Prop) (σ : ASt) : Prop := ∃ s F, Sim σ F (T s) (O s) ∧ N s

theorem Lab.mk {S : Type} {T : S → List (Nat × AV)} {O : S → List (Nat × LO)} {N : S → Prop} (s : S) (F : List (Nat × Option Nat))
    (h1 : (T s).map (fun p => some (nzV p.2 (σ.t p.1))) = (T s).map fun p => preV F σ.g p.2)
    (h2 : (O s).map (fun p => match look none F p.1 with | some j => some (nzO p.2 (σ.o j)) | none => if isNew p.2 then some .no else none) = (O s).map fun p => match look none F p.1 with | some _ => (preO F σ.g p.2).map (normP p.2) | none => some .no)
    (h3 : σ.g ownP = 0) (h4 : (F.all (fun p => (p.1 == ownP) == (p.2 == some ownP)) && ndup (F.filterMap (·.2)) && ndup (F.map (·.1)) && (F.map (·.1) == (O s).map (·.1))) = true) (hN : N s) : Lab T O N σ :=
  ⟨s, F, ⟨h1, h2, h3, h4⟩, hN⟩

theorem AW.lab {S : Type} {T : S → List (Nat × AV)} {O : S → List (Nat × LO)} {N : S → Prop} (h : Lab T O N σ) (hb : ∀ s, N s → AW P n (some ownP) ac (labS (T s) (O s)) Q) : AW P n (some ownP) ac σ Q := by
  obtain ⟨s, F, h1, h2⟩ := h
  exact AW.sim h1 (hb s h2)

/-- What comes behind a piece of code, from a label on. -/
theorem AW.seqL {S : Type} (T : S → List (Nat × AV)) (O : S → List (Nat × LO)) (N : S → Prop) (h1 : AW P n (some ownP) x σ (thenQ (Lab T O N) Q)) (h2 : ∀ s, N s → AW P n (some ownP) y (labS (T s) (O s)) Q) : AW P n (some ownP) (.seq x y) σ Q :=
  AW.seq (h1.mono fun e σ' h => by
    cases e with
    | fall => exact AW.lab h h2
    | exit id => exact h
    | ret => exact h)

/-- A loop: some invariant holds, and counts down. -/
def LoopW {S : Type} (body : S → (S → Prop) → Prop) (s0 : S) : Prop := ∃ I : Nat → S → Prop, (∃ k, I k s0) ∧ ∀ k s, I k s → body s fun s' => ∃ k', k' < k ∧ I k' s'

theorem AW.loopL {S : Type} (T : S → List (Nat × AV)) (O : S → List (Nat × LO)) (body : S → (S → Prop) → Prop) {N : S → Prop} (hl : Lab T O N σ) (hW : ∀ s, N s → LoopW body s)
    (hb : ∀ s N, body s N → AW P n (some ownP) x (labS (T s) (O s)) (thenQ (Lab T O N) Q)) : AW P n (some ownP) (.loop x) σ Q := by
  obtain ⟨s0, F0, hs, hN⟩ := hl
  obtain ⟨I, ⟨k0, h0⟩, hI⟩ := hW s0 hN
  refine AW.loop (fun k σ => ∃ s F, Sim σ F (T s) (O s) ∧ I k s) (k0 := k0) ⟨s0, F0, hs, h0⟩ fun k σ' ⟨s, F, h1, h2⟩ => AW.sim h1 ((hb s _ (hI k s h2)).mono fun e σ'' h => ?_)
  cases e with
  | fall =>
    obtain ⟨s', F', h3, k', h4, h5⟩ := h
    exact ⟨k', h4, s', F', h3, h5⟩
  | exit id => exact h
  | ret => exact h

/-- A test of the shallow form. -/
def Cond (t : Bool) (A B : Prop) : Prop := (t = true → A) ∧ (t = false → B)
/-- An element that is there. -/
def Idx {α : Type} (xs : List α) (i : Int) (K : α → Prop) : Prop := 0 ≤ i ∧ ∃ x, xs[i.toNat]? = some x ∧ K x

theorem AW.cond' {c : AX} {t : Bool} {A B : Prop} (hx : σ.ev c = .one (.d (.bool t))) (h : Cond t A B) (ha : A → AW P n (some ownP) x σ Q) (hb : B → AW P n (some ownP) y σ Q) : AW P n (some ownP) (.cond c x y) σ Q :=
  AW.cond hx (fun e => ha (h.1 e)) (fun e => hb (h.2 e))
theorem AW.condT {c : AX} (hx : σ.ev c = .one (.d (.bool true))) (h : AW P n (some ownP) x σ Q) : AW P n (some ownP) (.cond c x y) σ Q := AW.cond hx (fun _ => h) (fun e => by cases e)
theorem AW.condF {c : AX} (hx : σ.ev c = .one (.d (.bool false))) (h : AW P n (some ownP) y σ Q) : AW P n (some ownP) (.cond c x y) σ Q := AW.cond hx (fun e => by cases e) (fun _ => h)

variable {K : ASt → Prop} {id id' : Nat}
theorem q_fall (h : K σ) : thenQ K Q .fall σ := h
theorem q_exit (h : Q (.exit id) σ) : thenQ K Q (.exit id) σ := h
theorem q_ret (h : Q .ret σ) : thenQ K Q .ret σ := h
theorem q_bfall (h : Q .fall σ) : blkQ id Q .fall σ := h
theorem q_bret (h : Q .ret σ) : blkQ id Q .ret σ := h
theorem q_bhere (h : Q .fall σ) : blkQ id Q (.exit id) σ := by simp only [blkQ, if_true]; exact h
theorem q_bpast (hne : decide (id' = id) = false) (h : Q (.exit id') σ) : blkQ id Q (.exit id') σ := by
  simp only [blkQ]; rw [if_neg (of_decide_eq_false hne)]; exact h

end
end Go.Proofs.Ytnpdeecoejabgaa
