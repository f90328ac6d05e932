/- THE ABSTRACT MACHINE, 3: what pure data mean in the model's memory; contracts. -/
import Derived.Test.YtnpdeecoejabgaaKB
namespace Go.Proofs.Ytnpdeecoejabgaa
open Go

def isAggVal : Value → Bool
  | .agg _ => true
  | _ => false

/-- Datum c stands at value v; what it leads to lies outside of X. -/
inductive RepC (w : World) (X : Nat → Prop) : C → Value → Prop where
  | bool (b : Bool) : RepC w X (.bool b) (.bool b)
  | int (k : IntKind) (n : Int) : RepC w X (.int k n) (.int k n)
  | str (s : ByteArray) : RepC w X (.str s) (.string s)
  | sl0 (a : Option Addr) (cap : Nat) : RepC w X (.sl []) (.slice a 0 cap)
  | sl (xs : List (List C)) (ad : Addr) (n cap sz : Nat) (f : Nat → Nat → Value) (hn : xs.length = n) (hs : ∀ x ∈ xs, x.length = sz)
      (hm : n ≤ 9223372036854775807) (hcap : n ≤ cap) (hsp : ad.spot = none) (hX : ¬ X ad.block) (hb : ad.block < w.heap.size)
      (hc : ∀ i x, xs[i]? = some x → ∀ j c, x[j]? = some c → w.cell? (ad.add (i * sz + j)) = some (f i j))
      (hr : ∀ i x, xs[i]? = some x → ∀ j c, x[j]? = some c → RepC w X c (f i j)) : RepC w X (.sl xs) (.slice (some ad) n cap)
  | ptr (cs : List C) (ad : Addr) (f : Nat → Value) (hsp : ad.spot = none) (hX : ¬ X ad.block) (hb : ad.block < w.heap.size)
      (hc : ∀ j c, cs[j]? = some c → w.cell? (ad.add j) = some (f j)) (hr : ∀ j c, cs[j]? = some c → RepC w X c (f j)) : RepC w X (.ptr cs) (.pointer (some ad))
  | nilp : RepC w X .nilp (.pointer none)
  | nilf : RepC w X .nilf .nilFunc
  | fn (g : Nat) (caps : List C) (vs : Array Value) (f : Nat → Value) (hl : caps.length = vs.size) (hc : ∀ j c, caps[j]? = some c → vs[j]? = some (f j))
      (hr : ∀ j c, caps[j]? = some c → RepC w X c (f j)) : RepC w X (.fn g caps) (.func (.func g) #[] vs)
  | mp0 (ka va : Bool) : RepC w X (.mp ka va []) (.map none)
  | mp (ka va : Bool) (es : List (List C × List C)) (b clock : Nat) (me : Array MapEntry) (f g : Nat → Nat → Value) (hX : ¬ X b) (hb : b < w.heap.size)
      (hh : w.heap[b]? = some (.map me clock)) (hl : es.length = me.size)
      (hborn : ∀ (i : Nat) (e : MapEntry), me[i]? = some e → e.born < clock) (hdist : ∀ (i j : Nat) (e e' : MapEntry), me[i]? = some e → me[j]? = some e' → e.born = e'.born → i = j)
      (hk : ∀ (i : Nat) (e : List C × List C) (m : MapEntry), es[i]? = some e → me[i]? = some m → isAggVal m.key = ka ∧ m.key.cells.toList = (List.range e.1.length).map (f i) ∧ (ka = false → e.1.length = 1))
      (hv : ∀ (i : Nat) (e : List C × List C) (m : MapEntry), es[i]? = some e → me[i]? = some m → isAggVal m.val = va ∧ m.val.cells.toList = (List.range e.2.length).map (g i) ∧ (va = false → e.2.length = 1))
      (hrk : ∀ (i : Nat) (e : List C × List C), es[i]? = some e → ∀ j c, e.1[j]? = some c → RepC w X c (f i j))
      (hrv : ∀ (i : Nat) (e : List C × List C), es[i]? = some e → ∀ j c, e.2[j]? = some c → RepC w X c (g i j)) : RepC w X (.mp ka va es) (.map (some b))

theorem add_block (a : Addr) (n : Nat) : (a.add n).block = a.block := by unfold Addr.add; split <;> rfl

theorem RepC.mono {w w' : World} {X X' : Nat → Prop} (hw : ∀ b, b < w.heap.size → ¬ X b → w'.heap[b]? = w.heap[b]?) (hX : ∀ b, b < w.heap.size → ¬ X b → ¬ X' b)
    {c : C} {v : Value} (h : RepC w X c v) : RepC w' X' c v := by
  have hsz : ∀ b, b < w.heap.size → ¬ X b → b < w'.heap.size := fun b hb hx => by
    have h1 := hw b hb hx
    rw [Array.getElem?_eq_getElem hb] at h1
    exact (Array.getElem?_eq_some_iff.1 h1).1
  have hcell : ∀ a : Addr, a.block < w.heap.size → ¬ X a.block → w'.cell? a = w.cell? a := fun a hb hx => World.cell?_of_block (hw a.block hb hx)
  induction h with
  | bool b => exact .bool b
  | int k n => exact .int k n
  | str s => exact .str s
  | sl0 a cap => exact .sl0 a cap
  | sl xs ad n cap sz f hn hs hm hcp hsp hx hb hc _ ih =>
    exact .sl xs ad n cap sz f hn hs hm hcp hsp (hX _ hb hx) (hsz _ hb hx) (fun i x hi j c hj => by rw [hcell _ (by rw [add_block]; exact hb) (by rw [add_block]; exact hx)]; exact hc i x hi j c hj) (fun i x hi j c hj => ih i x hi j c hj)
  | ptr cs ad f hsp hx hb hc _ ih =>
    exact .ptr cs ad f hsp (hX _ hb hx) (hsz _ hb hx) (fun j c hj => by rw [hcell _ (by rw [add_block]; exact hb) (by rw [add_block]; exact hx)]; exact hc j c hj) (fun j c hj => ih j c hj)
  | nilp => exact .nilp
  | nilf => exact .nilf
  | fn g caps vs f hl hc _ ih => exact .fn g caps vs f hl hc (fun j c hj => ih j c hj)
  | mp0 ka va => exact .mp0 ka va
  | mp ka va es b clock me f g hx hb hh hl hbo hdi hk hv _ _ ih1 ih2 =>
    exact .mp ka va es b clock me f g (hX _ hb hx) (hsz _ hb hx) (by rw [hw _ hb hx]; exact hh) hl hbo hdi hk hv (fun i e hi j c hj => ih1 i e hi j c hj) (fun i e hi j c hj => ih2 i e hi j c hj)

theorem RepC.one {w : World} {X : Nat → Prop} {c : C} {v : Value} (h : RepC w X c v) : v.oneCell' = true := by cases h <;> rfl

/-- A result's cell: pure data, a row that is the receiver's own, or a pointer to such a variable. -/
inductive RC where
  | d (c : C)
  | own (E sz : Nat) (xs : List (List C))
  | ownp (E : Nat) (cs : List C)
  deriving Inhabited

/-- A row that somebody owns: block b holds it. -/
def OwnRow (w : World) (X : Nat → Prop) (b E sz cap : Nat) (xs : List (List C)) : Prop :=
  ∃ (cur : Array Value) (f : Nat → Nat → Value), w.heap[b]? = some (.cells cur E (0, 0)) ∧ cur.size = cap * sz ∧ xs.length ≤ cap ∧ 0 < sz ∧ cap ≤ 9223372036854775807 ∧
    (∀ x ∈ xs, x.length = sz) ∧
    (∀ i x, xs[i]? = some x → ∀ j c, x[j]? = some c → cur[i * sz + j]? = some (f i j) ∧ RepC w X c (f i j))

/-- A result's cell stands at v. ob: the block that it owns. -/
def RepR (w : World) (X : Nat → Prop) (ob : Option Nat) : RC → Value → Prop
  | .d c, v => RepC w X c v
  | .own E sz xs, v => (xs = [] ∧ ob = none ∧ ∃ a, v = .slice a 0 0) ∨ ∃ b cap, ob = some b ∧ v = .slice (some ⟨b, 0, none⟩) xs.length cap ∧ OwnRow w X b E sz cap xs
  | .ownp E cs, v => ∃ b, ob = some b ∧ v = .pointer (some ⟨b, 0, none⟩) ∧ OwnRow w X b E cs.length 1 [cs]

/-- A value made of cells. -/
inductive RepV {α : Type} (R : α → Value → Prop) : V α → Value → Prop where
  | any (v : Value) : RepV R .any v
  | one (a : α) (v : Value) (h : R a v) (hv : v.oneCell' = true) : RepV R (.one a) v
  | agg (as : List α) (vs : Array Value) (hl : as.length = vs.size) (h : ∀ (j : Nat) (a : α) (v : Value), as[j]? = some a → vs[j]? = some v → R a v ∧ v.oneCell' = true) : RepV R (.agg as) (.agg vs)
  | tup (as : List (V α)) (vs : Array Value) (hl : as.length = vs.size) (h : ∀ (j : Nat) (a : V α) (v : Value), as[j]? = some a → vs[j]? = some v → RepV R a v) : RepV R (.tup as) (.tuple vs)

theorem RepV.imp {α β : Type} {R : α → Value → Prop} {S : β → Value → Prop} (f : α → β) (h : ∀ a v, R a v → S (f a) v) : ∀ {x : V α} {v : Value}, RepV R x v →
    ∀ {y : V β}, (match x, y with | .any, .any => True | .one a, .one b => b = f a | .agg as, .agg bs => bs = as.map f | _, _ => False) → RepV S y v := by
  intro x v hx y hy
  cases hx with
  | any v => cases y <;> simp at hy; exact .any v
  | one a v ha hv => cases y <;> simp at hy; subst hy; exact .one _ _ (h _ _ ha) hv
  | agg as vs hl ha =>
    cases y <;> simp at hy
    subst hy
    refine .agg _ _ (by simpa using hl) fun j b v hb hv => ?_
    rw [List.getElem?_map] at hb
    cases hj : as[j]? with
    | none => rw [hj] at hb; cases hb
    | some a => rw [hj] at hb; cases hb; exact ⟨h _ _ (ha j a v hj hv).1, (ha j a v hj hv).2⟩
  | tup as vs hl ha => cases y <;> simp at hy

abbrev FSpec := List (V RC) → (V RC → List (List (List C)) → Prop) → Prop

def isOwn : RC → Bool
  | .d _ => false
  | _ => true

/-- How many rows a value owns. -/
def nOwn : V RC → Nat
  | .any => 0
  | .one a => if isOwn a then 1 else 0
  | .agg as => (as.filter isOwn).length
  | .tup vs => (vs.map fun | .one a => if isOwn a then 1 else 0 | .agg as => (as.filter isOwn).length | .any => 0 | .tup _ => 2).sum

/-- Of what was there nothing has turned but block ob. -/
structure Kept (ob : Option Nat) (w w' : World) : Prop where
  os : w'.os = w.os
  tape : w'.tape = w.tape
  output : w'.output = w.output
  size : w.heap.size ≤ w'.heap.size
  block : ∀ b, b < w.heap.size → ob ≠ some b → w'.heap[b]? = w.heap[b]?

theorem Kept.refl (ob : Option Nat) (w : World) : Kept ob w w := ⟨rfl, rfl, rfl, Nat.le_refl _, fun _ _ _ => rfl⟩
theorem Kept.trans {ob : Option Nat} {a b c : World} (h : Kept ob a b) (k : Kept ob b c) : Kept ob a c :=
  ⟨k.os.trans h.os, k.tape.trans h.tape, k.output.trans h.output, Nat.le_trans h.size k.size, fun i hi hn => (k.block i (Nat.lt_of_lt_of_le hi h.size) hn).trans (h.block i hi hn)⟩

/-- What the callee's own rows hold behind the call. -/
inductive RowsBack (w : World) (X : Nat → Prop) : List (V RC) → List Value → List (List (List C)) → Prop where
  | nil : RowsBack w X [] [] []
  | skip {a as v vs rows} (h : nOwn a = 0) (t : RowsBack w X as vs rows) : RowsBack w X (a :: as) (v :: vs) rows
  | own0 {E sz as ad vs rows} (t : RowsBack w X as vs rows) : RowsBack w X (.one (.own E sz []) :: as) (.slice ad 0 0 :: vs) ([] :: rows)
  | own {E sz xs as b n cap vs rows xs'} (hl : xs'.length = xs.length) (h : OwnRow w X b E sz cap xs') (t : RowsBack w X as vs rows) :
      RowsBack w X (.one (.own E sz xs) :: as) (.slice (some ⟨b, 0, none⟩) n cap :: vs) (xs' :: rows)
  | ownp {E cs as b vs rows cs'} (hl : cs'.length = cs.length) (h : OwnRow w X b E cs'.length 1 [cs']) (t : RowsBack w X as vs rows) :
      RowsBack w X (.one (.ownp E cs) :: as) (.pointer (some ⟨b, 0, none⟩) :: vs) ([cs'] :: rows)

/-- The contract of a function. -/
def COK (P : Program) (f : Nat) (S : FSpec) : Prop :=
  ∀ (w : World) (X : Nat → Prop) (ob : Option Nat) (args : List (V RC)) (vs : List Value) (K : V RC → List (List (List C)) → Prop),
    (∀ b, X b → b < w.heap.size) → (∀ b, ob = some b → X b) → ((args.map nOwn).sum ≤ 1) → (args.length = vs.length ∧ ∀ (j : Nat) (a : V RC) (v : Value), args[j]? = some a → vs[j]? = some v → RepV (RepR w X ob) a v) → S args K →
    Calls P f vs.toArray w (fun e w' => ∃ rv rows v ob', e = .returned v ∧ K rv rows ∧ nOwn rv ≤ 1 ∧ Kept ob w w' ∧ (∀ b, ob' = some b → w.heap.size ≤ b ∧ b < w'.heap.size) ∧
      RepV (RepR w' (fun b => X b ∨ ob' = some b) ob') rv v ∧ RowsBack w' (fun b => X b ∨ ob' = some b) args vs rows)

end Go.Proofs.Ytnpdeecoejabgaa
