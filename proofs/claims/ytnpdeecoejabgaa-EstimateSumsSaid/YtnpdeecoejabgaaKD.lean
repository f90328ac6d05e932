/- THE ABSTRACT MACHINE, 4: how a state of the abstract machine stands to the model's; what a change of one object leaves. -/
import Derived.Test.YtnpdeecoejabgaaKC
namespace Go.Proofs.Ytnpdeecoejabgaa
open Go Go.RowKit

def liveO : AO → Bool
  | .row l _ _ _ => l
  | .map l _ _ _ => l
  | .iter _ _ _ _ => true
  | .no => false

def Xs (X0 : Nat → Prop) (o : Nat → AO) (μ : Nat → Option Nat) (b : Nat) : Prop := X0 b ∨ ∃ k, liveO (o k) = true ∧ μ k = some b

/-- A slice value that shows elements lo to lo + n of a row. -/
def ViewAt (x : AO) (m : Option Nat) (w : World) (lo n : Nat) (v : Value) : Prop :=
  match x with
  | .row _ E sz _ => (m = none ∧ lo = 0 ∧ n = 0 ∧ ∃ a, v = .slice a 0 0) ∨ (lo ≠ 0 ∧ n = 0 ∧ ∃ a c, v = .slice a 0 c) ∨
      ∃ b cap cur, m = some b ∧ w.heap[b]? = some (.cells cur E (0, 0)) ∧ cur.size = (lo + cap) * sz ∧ v = .slice (some ⟨b, lo * sz, none⟩) n cap ∧ n ≤ cap
  | _ => True

def RefAt (x : AO) (m : Option Nat) (i off : Nat) (v : Value) : Prop :=
  match x with
  | .row _ _ sz _ => ∃ b, m = some b ∧ v = .pointer (some ⟨b, i * sz + off, none⟩)
  | _ => True

def MprAt (x : AO) (m : Option Nat) (v : Value) : Prop :=
  match x with
  | .map _ _ _ _ => ∃ b, m = some b ∧ v = .map (some b)
  | _ => True

def ItrAt (x : AO) (m : Option Nat) (v : Value) : Prop :=
  match x with
  | .iter _ _ _ _ => ∃ b, m = some b ∧ v = .pointer (some ⟨b, 0, none⟩)
  | _ => True

inductive RelC (g : Nat → Nat) (o : Nat → AO) (μ : Nat → Option Nat) (w : World) (X : Nat → Prop) : AC → Value → Prop where
  | d {c v} (h : RepC w X c v) : RelC g o μ w X (.d c) v
  | nils (a : Option Addr) : RelC g o μ w X .nils (.slice a 0 0)
  | view {k q lo n v} (hg : q ≤ g k) (h1 : ∃ a c, v = .slice a n c) (h : q = g k → ViewAt (o k) (μ k) w lo n v) : RelC g o μ w X (.view k q lo n) v
  | ref {k q i off v} (hg : q ≤ g k) (h1 : ∃ a, v = .pointer (some a)) (h : q = g k → RefAt (o k) (μ k) i off v) : RelC g o μ w X (.ref k q i off) v
  | mpr {k q v} (hg : q ≤ g k) (h1 : ∃ b, v = .map (some b)) (h : q = g k → MprAt (o k) (μ k) v) : RelC g o μ w X (.mpr k q) v
  | itr {k q v} (hg : q ≤ g k) (h1 : ∃ a, v = .pointer (some a)) (h : q = g k → ItrAt (o k) (μ k) v) : RelC g o μ w X (.itr k q) v
  | fn {f : Nat} {caps : List AC} {vs : Array Value} (fv : Nat → Value) (hl : caps.length = vs.size) (hc : ∀ (j : Nat) (c : AC), caps[j]? = some c → vs[j]? = some (fv j))
      (h : ∀ (j : Nat) (c : AC), caps[j]? = some c → RelC g o μ w X c (fv j)) : RelC g o μ w X (.fn f caps) (.func (.func f) #[] vs)

theorem RelC.one {g o μ w X c v} (h : RelC g o μ w X c v) : v.oneCell' = true := by
  cases h with
  | d h => exact h.one
  | nils a => rfl
  | view _ h1 _ => obtain ⟨a, c, rfl⟩ := h1; rfl
  | ref _ h1 _ => obtain ⟨a, rfl⟩ := h1; rfl
  | mpr _ h1 _ => obtain ⟨a, rfl⟩ := h1; rfl
  | itr _ h1 _ => obtain ⟨a, rfl⟩ := h1; rfl
  | fn => rfl

structure MapRel (w : World) (X : Nat → Prop) (ka va : Bool) (es : List (List C × List C)) (me : Array MapEntry) (clock : Nat) : Prop where
  len : es.length = me.size
  born : ∀ (i : Nat) (e : MapEntry), me[i]? = some e → e.born < clock
  dist : ∀ (i j : Nat) (e e' : MapEntry), me[i]? = some e → me[j]? = some e' → e.born = e'.born → i = j
  key : ∀ (i : Nat) (e : List C × List C) (m : MapEntry), es[i]? = some e → me[i]? = some m → isAggVal m.key = ka ∧ m.key.cells.size = e.1.length ∧ (ka = false → e.1.length = 1) ∧ ∀ (j : Nat) (c : C) (v : Value), e.1[j]? = some c → m.key.cells[j]? = some v → RepC w X c v
  val : ∀ (i : Nat) (e : List C × List C) (m : MapEntry), es[i]? = some e → me[i]? = some m → isAggVal m.val = va ∧ m.val.cells.size = e.2.length ∧ (va = false → e.2.length = 1) ∧ ∀ (j : Nat) (c : C) (v : Value), e.2[j]? = some c → m.val.cells[j]? = some v → RepC w X c v

theorem MapRel.mono {w w' : World} {X X' : Nat → Prop} {ka va es me clock} (hw : ∀ b, b < w.heap.size → ¬ X b → w'.heap[b]? = w.heap[b]?) (hX : ∀ b, b < w.heap.size → ¬ X b → ¬ X' b)
    (h : MapRel w X ka va es me clock) : MapRel w' X' ka va es me clock :=
  ⟨h.len, h.born, h.dist, fun i e m h1 h2 => let ⟨a, b, c, d⟩ := h.key i e m h1 h2; ⟨a, b, c, fun j x v h3 h4 => (d j x v h3 h4).mono hw hX⟩,
    fun i e m h1 h2 => let ⟨a, b, c, d⟩ := h.val i e m h1 h2; ⟨a, b, c, fun j x v h3 h4 => (d j x v h3 h4).mono hw hX⟩⟩

/-- An object of the abstract machine stands in memory. -/
def RelO (g : Nat → Nat) (o : Nat → AO) (μ : Nat → Option Nat) (w : World) (X : Nat → Prop) (k : Nat) : Prop :=
  match o k with
  | .no => True
  | .row l E sz xs => (μ k = none ∧ xs = []) ∨ ∃ b cur cap, μ k = some b ∧ w.heap[b]? = some (.cells cur E (0, 0)) ∧ cur.size = cap * sz ∧ 0 < sz ∧ cap ≤ 9223372036854775807 ∧ xs.length ≤ cap ∧
      (∀ x ∈ xs, x.length = sz) ∧ (∀ (i : Nat) (x : List AC), xs[i]? = some x → ∀ (j : Nat) (c : AC), x[j]? = some c → ∃ v, cur[i * sz + j]? = some v ∧ RelC g o μ w X c v) ∧ (l = false → ¬ X b)
  | .map l ka va es => ∃ b me clock, μ k = some b ∧ w.heap[b]? = some (.map me clock) ∧ MapRel w X ka va es me clock ∧ (l = false → ¬ X b)
  | .iter ka va left cur => (∃ b, μ k = some b ∧ w.heap[b]? = some (.mapIter none 0 #[] 0) ∧ left = [] ∧ cur = none) ∨
      ∃ (b m : Nat) (seen : Array Nat) (stepped : Nat) (me : Array MapEntry) (clock : Nat) (es : List (List C × List C)) (ls : List Nat), μ k = some b ∧ w.heap[b]? = some (.mapIter (some m) clock seen stepped) ∧ ¬ X m ∧ w.heap[m]? = some (.map me clock) ∧ MapRel w X ka va es me clock ∧
        stepped = clock ∧ left = ls.filterMap (es[·]?) ∧ ls.Nodup ∧ (∀ (i : Nat), i ∈ ls ↔ ∃ e, me[i]? = some e ∧ seen.contains e.born = false) ∧
        (∀ e, cur = some e → ∃ (i : Nat) (m : MapEntry), es[i]? = some e ∧ me[i]? = some m ∧ seen.back? = some m.born)

structure Ctx where
  w0 : World
  X0 : Nat → Prop
  ob : Option Nat
  n : Nat
  pk : Option Nat
  gc : AC
  gv : Value

structure Rel (cx : Ctx) (μ : Nat → Option Nat) (σ : ASt) (a : Act) (w : World) : Prop where
  defers : a.defers = []
  sz : cx.n ≤ a.tmps.size
  kept : Kept cx.ob cx.w0 w
  tm : ∀ k, RepV (RelC σ.g σ.o μ w (Xs cx.X0 σ.o μ)) (σ.t k) (a.tmps.getD k undef)
  obj : ∀ k, RelO σ.g σ.o μ w (Xs cx.X0 σ.o μ) k
  inj : ∀ k k' b, liveO (σ.o k) = true → liveO (σ.o k') = true → μ k = some b → μ k' = some b → k = k'
  lv : ∀ k b, liveO (σ.o k) = true → μ k = some b → (cx.w0.heap.size ≤ b ∨ cx.ob = some b) ∧ b < w.heap.size
  x0 : ∀ b, cx.X0 b → b < cx.w0.heap.size
  gh : RelC σ.g σ.o μ w (Xs cx.X0 σ.o μ) cx.gc cx.gv
  xo : ∀ k b, liveO (σ.o k) = true → μ k = some b → cx.X0 b → cx.pk = some k

theorem RepV.mono {α : Type} {R S : α → Value → Prop} (h : ∀ a v, R a v → S a v) {x : V α} {v : Value} (hx : RepV R x v) : RepV S x v := by
  induction hx with
  | any v => exact .any v
  | one a v ha hv => exact .one a v (h _ _ ha) hv
  | agg as vs hl ha => exact .agg as vs hl fun j a v h1 h2 => ⟨h _ _ (ha j a v h1 h2).1, (ha j a v h1 h2).2⟩
  | tup as vs hl _ ih => exact .tup as vs hl fun j a v h1 h2 => ih j a v h1 h2

def ObjLike (x : AO) (m : Option Nat) (w : World) (x' : AO) (m' : Option Nat) (w' : World) : Prop :=
  (∀ lo n v, ViewAt x m w lo n v → ViewAt x' m' w' lo n v) ∧ (∀ i off v, RefAt x m i off v → RefAt x' m' i off v) ∧ (∀ v, MprAt x m v → MprAt x' m' v) ∧ (∀ v, ItrAt x m v → ItrAt x' m' v)

theorem RelC.pres {g o μ w X g' o' μ' w' X'} (hg : ∀ k, g k ≤ g' k) (hl : ∀ k, g' k = g k → ObjLike (o k) (μ k) w (o' k) (μ' k) w')
    (hw : ∀ b, b < w.heap.size → ¬ X b → w'.heap[b]? = w.heap[b]?) (hX : ∀ b, b < w.heap.size → ¬ X b → ¬ X' b) {c v} (h : RelC g o μ w X c v) : RelC g' o' μ' w' X' c v := by
  have eqs : ∀ {q k}, q ≤ g k → q = g' k → q = g k ∧ g' k = g k := fun {q k} h1 h2 => by have := hg k; omega
  induction h with
  | d h => exact .d (h.mono hw hX)
  | nils a => exact .nils a
  | view h1 h2 h3 => exact .view (Nat.le_trans h1 (hg _)) h2 fun e => (hl _ (eqs h1 e).2).1 _ _ _ (h3 (eqs h1 e).1)
  | ref h1 h2 h3 => exact .ref (Nat.le_trans h1 (hg _)) h2 fun e => (hl _ (eqs h1 e).2).2.1 _ _ _ (h3 (eqs h1 e).1)
  | mpr h1 h2 h3 => exact .mpr (Nat.le_trans h1 (hg _)) h2 fun e => (hl _ (eqs h1 e).2).2.2.1 _ (h3 (eqs h1 e).1)
  | itr h1 h2 h3 => exact .itr (Nat.le_trans h1 (hg _)) h2 fun e => (hl _ (eqs h1 e).2).2.2.2 _ (h3 (eqs h1 e).1)
  | fn fv hl2 hc _ ih => exact .fn fv hl2 hc fun j c hj => ih j c hj

theorem ObjLike.same (x : AO) (m : Option Nat) (w w' : World) (h : ∀ l E sz xs, x = .row l E sz xs → ∀ b, m = some b → ∀ cur, w.heap[b]? = some (.cells cur E (0, 0)) → w'.heap[b]? = w.heap[b]?) : ObjLike x m w x m w' := by
  refine ⟨fun lo n v hv => ?_, fun _ _ _ h => h, fun _ h => h, fun _ h => h⟩
  cases x with
  | row l E sz xs =>
    simp only [ViewAt] at hv ⊢
    rcases hv with hv | hv | ⟨b, cap, cur, h1, h2, h3⟩
    · exact .inl hv
    · exact .inr (.inl hv)
    · exact .inr (.inr ⟨b, cap, cur, h1, by rw [h _ _ _ _ rfl b h1 cur h2]; exact h2, h3⟩)
  | _ => trivial

theorem size_put (a : Act) (dst : Option Tmp) (v : Value) : (a.put dst v).tmps.size = a.tmps.size := by cases dst <;> simp [Act.put]
theorem defers_put (a : Act) (dst : Option Tmp) (v : Value) : (a.put dst v).defers = a.defers := by cases dst <;> rfl

theorem getD_put {a : Act} {dst : Option Tmp} {v : Value} {t : Nat → AV} {x : AV} {R : AV → Value → Prop} (h : ∀ k, R (t k) (a.tmps.getD k undef)) (hv : R x v) (hd : ∀ d, dst = some d → d < a.tmps.size) :
    ∀ k, R (putT t dst x k) ((a.put dst v).tmps.getD k undef) := by
  intro k
  cases dst with
  | none => exact h k
  | some d =>
    by_cases e : k = d
    · subst e
      simp only [putT, upd_same, Act.put]
      have hlt := hd k rfl
      simpa [Array.getElem?_setIfInBounds_self_of_lt hlt, hlt] using hv
    · simp only [putT, upd_ne _ _ e, Act.put]
      have : (a.tmps.setIfInBounds d v).getD k undef = a.tmps.getD k undef := by simp [Array.getElem?_setIfInBounds_ne (Ne.symm e)]
      rw [this]
      exact h k

/-- A value is put into a slot. -/
theorem Rel.val {cx μ σ a w} (h : Rel cx μ σ a w) {dst : Option Tmp} (hd : ∀ d, dst = some d → d < cx.n) {v : AV} {u : Value} (hv : RepV (RelC σ.g σ.o μ w (Xs cx.X0 σ.o μ)) v u) :
    Rel cx μ (σ.put dst (v, [])) (a.put dst u) w :=
  { defers := by rw [defers_put]; exact h.defers, sz := by rw [size_put]; exact h.sz, kept := h.kept, obj := h.obj, inj := h.inj, lv := h.lv, x0 := h.x0, gh := h.gh, xo := h.xo
    tm := getD_put (R := RepV (RelC σ.g σ.o μ w (Xs cx.X0 σ.o μ))) h.tm hv fun d e => Nat.lt_of_lt_of_le (hd d e) h.sz }

/-- One object is turned, or made. -/
theorem Rel.turn {cx μ σ a w} (h : Rel cx μ σ a w) (d g' : Nat) (x' : AO) (m' : Option Nat) (w' : World) (hg : σ.g d ≤ g') (hlike : g' = σ.g d → ObjLike (σ.o d) (μ d) w x' m' w')
    (hheap : ∀ b, b < w.heap.size → ¬ (liveO (σ.o d) = true ∧ μ d = some b) → w'.heap[b]? = w.heap[b]?) (hk : Kept cx.ob cx.w0 w') (hsz : w.heap.size ≤ w'.heap.size)
    (hblk : liveO x' = true → ∀ b, m' = some b → (w.heap.size ≤ b ∨ (liveO (σ.o d) = true ∧ μ d = some b)) ∧ b < w'.heap.size)
    (hobj : (∀ {c v}, RelC σ.g σ.o μ w (Xs cx.X0 σ.o μ) c v → RelC (upd σ.g d g') (upd σ.o d x') (upd μ d m') w' (Xs cx.X0 (upd σ.o d x') (upd μ d m')) c v) →
      (∀ b, b < w.heap.size → ¬ Xs cx.X0 σ.o μ b → w'.heap[b]? = w.heap[b]? ∧ ¬ Xs cx.X0 (upd σ.o d x') (upd μ d m') b) → RelO (upd σ.g d g') (upd σ.o d x') (upd μ d m') w' (Xs cx.X0 (upd σ.o d x') (upd μ d m')) d)
    {dst : Option Tmp} (hd : ∀ d, dst = some d → d < cx.n) {v : AV} {u : Value}
    (hv : (∀ {c v}, RelC σ.g σ.o μ w (Xs cx.X0 σ.o μ) c v → RelC (upd σ.g d g') (upd σ.o d x') (upd μ d m') w' (Xs cx.X0 (upd σ.o d x') (upd μ d m')) c v) →
      RepV (RelC (upd σ.g d g') (upd σ.o d x') (upd μ d m') w' (Xs cx.X0 (upd σ.o d x') (upd μ d m'))) v u) :
    Rel cx (upd μ d m') ⟨putT σ.t dst v, upd σ.g d g', upd σ.o d x'⟩ (a.put dst u) w' := by
  have hX : ∀ b, b < w.heap.size → ¬ Xs cx.X0 σ.o μ b → ¬ Xs cx.X0 (upd σ.o d x') (upd μ d m') b := by
    rintro b hb hx (hy | ⟨k, hk1, hk2⟩)
    · exact hx (.inl hy)
    · by_cases e : k = d
      · subst e
        rw [upd_same] at hk1 hk2
        rcases (hblk hk1 b hk2).1 with h1 | ⟨h1, h2⟩
        · omega
        · exact hx (.inr ⟨k, h1, h2⟩)
      · rw [upd_ne _ _ e] at hk1 hk2
        exact hx (.inr ⟨k, hk1, hk2⟩)
  have hlv : ∀ b, ¬ Xs cx.X0 σ.o μ b → ¬ (liveO (σ.o d) = true ∧ μ d = some b) := fun b hx hy => hx (.inr ⟨d, hy⟩)
  have hw : ∀ b, b < w.heap.size → ¬ Xs cx.X0 σ.o μ b → w'.heap[b]? = w.heap[b]? := fun b hb hx => hheap b hb (hlv b hx)
  have hgs : ∀ k, σ.g k ≤ upd σ.g d g' k := fun k => by
    by_cases e : k = d
    · subst e; rw [upd_same]; exact hg
    · rw [upd_ne _ _ e]; exact Nat.le_refl _
  have hrow : ∀ k, k ≠ d → ∀ b, μ k = some b → b < w.heap.size → (liveO (σ.o k) = true ∨ ¬ Xs cx.X0 σ.o μ b) → w'.heap[b]? = w.heap[b]? := fun k e b hm hb hl =>
    hheap b hb fun hy => by
      rcases hl with hl | hl
      · exact e (h.inj k d b hl hy.1 hm hy.2)
      · exact hl (.inr ⟨d, hy⟩)
  have lt : ∀ {b : Nat} {ob : Obj}, w.heap[b]? = some ob → b < w.heap.size := fun {b ob} hb => (Array.getElem?_eq_some_iff.1 hb).1
  have hls : ∀ k, upd σ.g d g' k = σ.g k → ObjLike (σ.o k) (μ k) w (upd σ.o d x' k) (upd μ d m' k) w' := fun k => by
    by_cases e : k = d
    · subst e; rw [upd_same, upd_same, upd_same]; exact hlike
    · rw [upd_ne _ _ e, upd_ne _ _ e, upd_ne _ _ e]
      refine fun _ => ObjLike.same _ _ _ _ fun l E sz xs hx b hm cur hc => ?_
      have ho := h.obj k
      unfold RelO at ho
      rw [hx] at ho
      simp only at ho
      rcases ho with ⟨hn, _⟩ | ⟨b', cur', cap, h1, h2, _, _, _, _, _, _, h9⟩
      · rw [hn] at hm; cases hm
      · have : b' = b := by rw [h1] at hm; exact Option.some.inj hm
        subst this
        refine hrow k e b' h1 (lt h2) ?_
        cases l with
        | true => exact .inl (by rw [hx]; rfl)
        | false => exact .inr (h9 rfl)
  have hcell : ∀ {c v}, RelC σ.g σ.o μ w (Xs cx.X0 σ.o μ) c v → RelC (upd σ.g d g') (upd σ.o d x') (upd μ d m') w' (Xs cx.X0 (upd σ.o d x') (upd μ d m')) c v := fun hc => hc.pres hgs hls hw hX
  refine { defers := by rw [defers_put]; exact h.defers, sz := by rw [size_put]; exact h.sz, kept := hk, x0 := h.x0, gh := hcell h.gh, xo := ?_, obj := fun k => ?_, inj := ?_, lv := ?_, tm := ?_ }
  · exact getD_put (R := RepV (RelC (upd σ.g d g') (upd σ.o d x') (upd μ d m') w' (Xs cx.X0 (upd σ.o d x') (upd μ d m')))) (fun k => (h.tm k).mono fun _ _ hc => hcell hc) (hv hcell) fun d e => Nat.lt_of_lt_of_le (hd d e) h.sz
  · by_cases e : k = d
    · subst e; exact hobj hcell fun b hb hx => ⟨hw b hb hx, hX b hb hx⟩
    · have ho := h.obj k
      unfold RelO at ho ⊢
      simp only [upd_ne _ _ e]
      cases hx : σ.o k with
      | no => trivial
      | row l E sz xs =>
        rw [hx] at ho
        simp only at ho ⊢
        rcases ho with ho | ⟨b, cur, cap, h1, h2, h3, h4, h5, h6, h7, h8, h9⟩
        · exact .inl ho
        · refine .inr ⟨b, cur, cap, h1, ?_, h3, h4, h5, h6, h7, fun i x hi j c hj => ?_, fun hl => hX b (lt h2) (h9 hl)⟩
          · rw [hrow k e b h1 (lt h2) (by cases l with | true => exact .inl (by rw [hx]; rfl) | false => exact .inr (h9 rfl))]
            exact h2
          · obtain ⟨v, hv1, hv2⟩ := h8 i x hi j c hj
            exact ⟨v, hv1, hcell hv2⟩
      | map l ka va es =>
        rw [hx] at ho
        simp only at ho ⊢
        obtain ⟨b, me, clock, h1, h2, h3, h4⟩ := ho
        refine ⟨b, me, clock, h1, ?_, h3.mono hw hX, fun hl => hX b (lt h2) (h4 hl)⟩
        rw [hrow k e b h1 (lt h2) (by cases l with | true => exact .inl (by rw [hx]; rfl) | false => exact .inr (h4 rfl))]
        exact h2
      | iter ka va left cur =>
        rw [hx] at ho
        simp only at ho ⊢
        have hl : liveO (σ.o k) = true := by rw [hx]; rfl
        rcases ho with ⟨b, h1, h2, h3⟩ | ⟨b, m, seen, stepped, me, clock, es, ls, h1, h2, h3, h4, h5, h6⟩
        · exact .inl ⟨b, h1, by rw [hrow k e b h1 (lt h2) (.inl hl)]; exact h2, h3⟩
        · exact .inr ⟨b, m, seen, stepped, me, clock, es, ls, h1, by rw [hrow k e b h1 (lt h2) (.inl hl)]; exact h2, hX m (lt h4) h3, by rw [hw m (lt h4) h3]; exact h4, h5.mono hw hX, h6⟩
  · intro k k' b h1 h2 h3 h4
    dsimp only at h1 h2
    by_cases e : k = d <;> by_cases e' : k' = d
    · rw [e, e']
    · subst e
      rw [upd_same] at h1 h3
      rw [upd_ne _ _ e'] at h2 h4
      rcases (hblk h1 b h3).1 with h5 | ⟨h5, h6⟩
      · have := (h.lv k' b h2 h4).2; omega
      · exact absurd (h.inj k' k b h2 h5 h4 h6) e'
    · subst e'
      rw [upd_same] at h2 h4
      rw [upd_ne _ _ e] at h1 h3
      rcases (hblk h2 b h4).1 with h5 | ⟨h5, h6⟩
      · have := (h.lv k b h1 h3).2; omega
      · exact absurd (h.inj k k' b h1 h5 h3 h6) e
    · rw [upd_ne _ _ e] at h1 h3
      rw [upd_ne _ _ e'] at h2 h4
      exact h.inj k k' b h1 h2 h3 h4
  · intro k b h1 h2
    dsimp only at h1
    by_cases e : k = d
    · subst e
      rw [upd_same] at h1 h2
      obtain ⟨h3, h4⟩ := hblk h1 b h2
      refine ⟨?_, h4⟩
      rcases h3 with h3 | ⟨h3, h5⟩
      · exact .inl (Nat.le_trans h.kept.size h3)
      · exact (h.lv k b h3 h5).1
    · rw [upd_ne _ _ e] at h1 h2
      obtain ⟨h3, h4⟩ := h.lv k b h1 h2
      exact ⟨h3, Nat.lt_of_lt_of_le h4 hsz⟩
  · intro k b h1 h2 h3
    dsimp only at h1
    by_cases e : k = d
    · subst e
      rw [upd_same] at h1 h2
      rcases (hblk h1 b h2).1 with h4 | ⟨h4, h5⟩
      · have := h.x0 b h3; have := h.kept.size; omega
      · exact h.xo k b h4 h5 h3
    · rw [upd_ne _ _ e] at h1 h2
      exact h.xo k b h1 h2 h3

end Go.Proofs.Ytnpdeecoejabgaa
