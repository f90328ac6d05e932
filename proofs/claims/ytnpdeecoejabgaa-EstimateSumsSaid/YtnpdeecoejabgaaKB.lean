/- THE ABSTRACT MACHINE, 2: values, objects, states; what an operation does. -/
import Derived.Test.YtnpdeecoejabgaaKA
namespace Go.Proofs.Ytnpdeecoejabgaa
open Go

/-- A cell of pure data: what it leads to never changes again. -/
inductive C where
  | bool (b : Bool)
  | int (k : IntKind) (n : Int)
  | str (s : ByteArray)
  | sl (xs : List (List C))
  | ptr (cs : List C)
  | nilp
  | nilf
  | fn (f : Nat) (caps : List C)
  | mp (ka va : Bool) (es : List (List C × List C))
  deriving Inhabited

/-- A cell of the abstract machine. -/
inductive AC where
  | d (c : C)
  | nils
  | view (o g lo n : Nat)
  | ref (o g i off : Nat)
  | mpr (o g : Nat)
  | fn (f : Nat) (caps : List AC)
  | itr (o g : Nat)
  deriving Inhabited

inductive V (α : Type) where
  | any
  | one (a : α)
  | agg (as : List α)
  | tup (vs : List (V α))
  deriving Inhabited

abbrev AV := V AC

inductive AO where
  | no
  | row (live : Bool) (E sz : Nat) (xs : List (List AC))
  | map (live : Bool) (ka va : Bool) (es : List (List C × List C))
  | iter (ka va : Bool) (left : List (List C × List C)) (cur : Option (List C × List C))
  deriving Inhabited

structure ASt where
  t : Nat → AV
  g : Nat → Nat
  o : Nat → AO

def upd {α : Type} (f : Nat → α) (k : Nat) (v : α) : Nat → α := fun j => if j = k then v else f j

@[simp] theorem upd_same {α : Type} (f : Nat → α) (k : Nat) (v : α) : upd f k v k = v := by simp [upd]
theorem upd_ne {α : Type} (f : Nat → α) {k j : Nat} (v : α) (h : j ≠ k) : upd f k v j = f j := by simp [upd, h]

abbrev dm (cs : List C) : List AC := cs.map AC.d

def kC : K → AC
  | .bool b => .d (.bool b)
  | .int k n => .d (.int k n)
  | .str s => .d (.str s)
  | .nils => .nils
  | .nilp => .d .nilp
  | .nilm => .d (.mp false false [])
  | .nilf => .d .nilf

def zval (agg : Bool) (z : List K) : AV :=
  match agg, z with
  | false, k :: _ => .one (kC k)
  | _, z => .agg (z.map kC)

def ASt.ev (σ : ASt) : AX → AV
  | .t n => σ.t n
  | .c k => .one (kC k)
  | .f f => .one (.fn f [])

def cellsOf : AV → Option (List AC)
  | .one a => some [a]
  | .agg as => some as
  | _ => none

/-- What an operation gives: a value, and the objects that it turns. -/
abbrev Eff := AV × List (Nat × Nat × AO)

def putT (t : Nat → AV) (dst : Option Nat) (v : AV) : Nat → AV :=
  match dst with
  | some d => upd t d v
  | none => t
def putG (g : Nat → Nat) : List (Nat × Nat × AO) → Nat → Nat
  | [] => g
  | u :: us => putG (upd g u.1 u.2.1) us
def putO (o : Nat → AO) : List (Nat × Nat × AO) → Nat → AO
  | [] => o
  | u :: us => putO (upd o u.1 u.2.2) us
def ASt.put (σ : ASt) (dst : Option Nat) (e : Eff) : ASt := ⟨putT σ.t dst e.1, putG σ.g e.2, putO σ.o e.2⟩

/-- A row's cells, as pure data. -/
def pureCell : AC → Option C
  | .d c => some c
  | _ => none
def pureCells (cs : List AC) : Option (List C) := allSome (cs.map pureCell)
def pureRow (xs : List (List AC)) : Option (List (List C)) := allSome (xs.map pureCells)
abbrev dmm (xs : List (List C)) : List (List AC) := xs.map dm

/-- The pure datum behind a cell. -/
def frz (σ : ASt) : Nat → AC → Option C
  | 0, _ => none
  | _ + 1, .d c => some c
  | _ + 1, .nils => some (.sl [])
  | n + 1, .view o g lo k => if g = σ.g o then match σ.o o with
      | .row _ _ _ xs => if lo + k ≤ xs.length then match pureRow xs with
          | some ys => some (.sl ((ys.drop lo).take k))
          | none => (allSome (((xs.drop lo).take k).map fun x => allSome (x.map (frz σ n)))).map .sl
        else none
      | _ => none
    else none
  | n + 1, .ref o g i off => if g = σ.g o then match σ.o o with
      | .row _ _ _ xs => match xs[i]? with
        | some x => (allSome ((x.drop off).map (frz σ n))).map .ptr
        | none => none
      | _ => none
    else none
  | _ + 1, .mpr o g => if g = σ.g o then match σ.o o with
      | .map _ ka va es => some (.mp ka va es)
      | _ => none
    else none
  | n + 1, .fn f caps => (allSome (caps.map (frz σ n))).map (.fn f)
  | _ + 1, _ => none

/-- The objects that a cell leads to. -/
def reach (σ : ASt) : Nat → AC → List Nat
  | 0, _ => []
  | n + 1, .view o _ _ _ => o :: match σ.o o with
      | .row _ _ _ xs => match pureRow xs with
        | some _ => []
        | none => xs.flatMap fun x => x.flatMap (reach σ n)
      | _ => []
  | n + 1, .ref o _ _ _ => o :: match σ.o o with
      | .row _ _ _ xs => match pureRow xs with
        | some _ => []
        | none => xs.flatMap fun x => x.flatMap (reach σ n)
      | _ => []
  | _ + 1, .mpr o _ => [o]
  | n + 1, .fn _ caps => caps.flatMap (reach σ n)
  | _ + 1, _ => []

def binInt (op : BinOp) (k : IntKind) (x y : Int) : Option AC :=
  match op with
  | .add => some (.d (.int k (k.wrap (x + y))))
  | .sub => some (.d (.int k (k.wrap (x - y))))
  | .mul => some (.d (.int k (k.wrap (x * y))))
  | .quo => if y = 0 then none else some (.d (.int k (k.wrap (x.tdiv y))))
  | .rem => if y = 0 then none else some (.d (.int k (x.tmod y)))
  | .eql => some (.d (.bool (decide (x = y))))
  | .neq => some (.d (.bool (decide (¬ x = y))))
  | .lss => some (.d (.bool (decide (x < y))))
  | .leq => some (.d (.bool (decide (x ≤ y))))
  | .gtr => some (.d (.bool (decide (x > y))))
  | .geq => some (.d (.bool (decide (x ≥ y))))
  | .and => some (.d (.int k (k.wrap (BitVec.ofInt k.bits x &&& BitVec.ofInt k.bits y).toNat)))
  | .or => some (.d (.int k (k.wrap (BitVec.ofInt k.bits x ||| BitVec.ofInt k.bits y).toNat)))
  | .xor => some (.d (.int k (k.wrap (BitVec.ofInt k.bits x ^^^ BitVec.ofInt k.bits y).toNat)))
  | .andNot => some (.d (.int k (k.wrap (BitVec.ofInt k.bits x &&& ~~~BitVec.ofInt k.bits y).toNat)))
  | .shl | .shr => none

def binStr (op : BinOp) (x y : ByteArray) : Option AC :=
  match op with
  | .eql => some (.d (.bool (decide (x = y))))
  | .neq => some (.d (.bool (decide (¬ x = y))))
  | .lss => some (.d (.bool (Op.bytesLess x.toList y.toList)))
  | .leq => some (.d (.bool (Op.bytesLess x.toList y.toList || decide (x = y))))
  | .gtr => some (.d (.bool (!(Op.bytesLess x.toList y.toList || decide (x = y)))))
  | .geq => some (.d (.bool (!Op.bytesLess x.toList y.toList)))
  | .add => if x.size + y.size ≤ 9223372036854775807 then some (.d (.str (x ++ y))) else none
  | _ => none

def shiftOp (op : BinOp) (k : IntKind) (x y : Int) : Option AC :=
  if y < 0 then none else
  match op with
  | .shl => some (.d (.int k (k.wrap (x * 2 ^ (min y.toNat k.bits)))))
  | .shr => some (.d (.int k (x.fdiv (2 ^ (min y.toNat k.bits)))))
  | _ => none

def binOp (op : BinOp) (x y : AV) : Option AV :=
  match x, y with
  | .one (.d (.int k a)), .one (.d (.int k' b)) =>
    match op with
    | .shl => (shiftOp .shl k a b).map .one
    | .shr => (shiftOp .shr k a b).map .one
    | op => if k = k' then (binInt op k a b).map .one else none
  | .one (.d (.str a)), .one (.d (.str b)) => (binStr op a b).map .one
  | _, _ => none

def eqCell : CK → C → C → Option Bool
  | .b, .bool a, .bool b => some (a == b)
  | .i, .int k a, .int k' b => if k = k' then some (decide (a = b)) else none
  | .s, .str a, .str b => some (decide (a = b))
  | _, _, _ => none

def eqCells : List CK → List C → List C → Option Bool
  | [], [], [] => some true
  | k :: ks, a :: x, b :: y => match eqCell k a b with
    | some e => (eqCells ks x y).map (e && ·)
    | none => none
  | _, _, _ => none

def fillParts (cs : List AC) : List (Nat × Nat × AV) → Option (List AC)
  | [] => some cs
  | (off, n, v) :: r => match cellsOf v with
    | some vs => if vs.length = n ∧ off + n ≤ cs.length then fillParts (cs.take off ++ vs ++ cs.drop (off + n)) r else none
    | none => none

def idx (i : Int) (n : Nat) : Option Nat := if 0 ≤ i ∧ i < (n : Int) then some i.toNat else none

def asI : AV → Option Int
  | .one (.d (.int _ n)) => some n
  | _ => none

def asB : AV → Option Bool
  | .one (.d (.bool b)) => some b
  | _ => none

def ldVal (agg : Bool) (n : Nat) (cs : List AC) : Option AV :=
  if n ≤ cs.length then
    match agg, cs with
    | true, cs => some (.agg (cs.take n))
    | false, c :: _ => some (.one c)
    | false, [] => none
  else none

def bounds (n cap : Nat) (lo hi : Option Int) : Option (Nat × Nat) :=
  match hi with
  | none => match lo with
    | none => some (0, n)
    | some l => (idx l (n + 1)).map fun l => (l, n)
  | some h => match idx h (cap + 1) with
    | none => none
    | some h => match lo with
      | none => some (0, h)
      | some l => (idx l (h + 1)).map fun l => (l, h)

def optI (σ : ASt) : Option AX → Option (Option Int)
  | none => some none
  | some x => (asI (σ.ev x)).map some

def minmax (isMax : Bool) (x y : AV) : Option AV :=
  match x, y with
  | .one (.d (.int k a)), .one (.d (.int _ b)) => some (.one (.d (.int k (if isMax then (if b > a then b else a) else (if b < a then b else a)))))
  | _, _ => none

def foldO {α : Type} (f : α → α → Option α) : α → List α → Option α
  | a, [] => some a
  | a, b :: r => match f a b with | some c => foldO f c r | none => none

/-- The row's elements behind a slice's cell. -/
def elemsRaw (σ : ASt) (sz : Nat) : AC → Option (List (List AC))
  | .nils => some []
  | .d (.sl xs) => if xs.all (fun x => decide (x.length = sz)) then some (xs.map dm) else none
  | .view o g lo n => if g = σ.g o then match σ.o o with
      | .row _ _ s xs => if s = sz ∧ lo + n ≤ xs.length then some ((xs.drop lo).take n) else none
      | _ => none
    else none
  | _ => none

/-- A nil slice is pure data where it becomes part of a row. -/
def nilC : AC → AC
  | .nils => .d (.sl [])
  | c => c
def elemsOf (σ : ASt) (sz : Nat) (c : AC) : Option (List (List AC)) := (elemsRaw σ sz c).map fun xs => xs.map fun x => x.map nilC

def findE (ks : List CK) (k : List C) : List (List C × List C) → Option (Option (Nat × List C))
  | [] => some none
  | (k', v) :: r => match eqCells ks k k' with
    | some true => some (some (0, v))
    | some false => match findE ks k r with
      | some (some (i, v)) => some (some (i + 1, v))
      | some none => some none
      | none => none
    | none => none

def toVal (agg : Bool) (cs : List AC) : Option AV :=
  match agg, cs with
  | true, cs => some (.agg cs)
  | false, [c] => some (.one c)
  | _, _ => none

def isAggV : AV → Bool
  | .agg _ => true
  | _ => false

def setElems (sz : Nat) : List (List AC) → List (Nat × AV) → Option (List (List AC))
  | xs, [] => some xs
  | xs, (j, v) :: r => match cellsOf v with
    | some cs => if cs.length = sz ∧ j < xs.length then setElems sz (xs.set j cs) r else none
    | none => none

def oneCell? : AV → Option AC
  | .one c => some c
  | _ => none

def mapOf (σ : ASt) : AV → Option (Bool × Bool × List (List C × List C))
  | .one (.d (.mp ka va es)) => some (ka, va, es)
  | .one (.mpr o g) => if g = σ.g o then match σ.o o with | .map _ ka va es => some (ka, va, es) | _ => none else none
  | _ => none

/-- The operations that have one outcome. 'd' names the object that is made. -/
def det (σ : ASt) (d : Nat) : AOp → Option Eff
  | .mov x => some (σ.ev x, [])
  | .pick c a b => (asB (σ.ev c)).map fun t => (if t then σ.ev a else σ.ev b, [])
  | .alloc E _ z => some (.one (.ref d (σ.g d + 1) 0 0), [(d, σ.g d + 1, .row true E z.length [z.map kC])])
  | .box E agg n x => match cellsOf (σ.ev x) with
    | some cs => if cs.length = n ∧ isAggV (σ.ev x) = agg then some (.one (.ref d (σ.g d + 1) 0 0), [(d, σ.g d + 1, .row true E n [cs])]) else none
    | none => none
  | .bld z ps => (fillParts (z.map kC) (ps.map fun p => (p.1, p.2.1, σ.ev p.2.2))).map fun cs => (.agg cs, [])
  | .bsl E sz n z ps =>
      (setElems sz (List.replicate n (z.map kC)) (ps.map fun p => (p.1, σ.ev p.2))).map fun xs => (.one (.view d (σ.g d + 1) 0 n), [(d, σ.g d + 1, .row true E sz xs)])
  | .ld agg n a => match σ.ev a with
    | .one (.d (.ptr cs)) => (ldVal agg n (dm cs)).map fun v => (v, [])
    | .one (.ref o g i off) => if g = σ.g o then match σ.o o with
        | .row _ _ _ xs => match xs[i]? with
          | some cs => (ldVal agg n (cs.drop off)).map fun v => (v, [])
          | none => none
        | _ => none
      else none
    | _ => none
  | .st n a x => match σ.ev a, cellsOf (σ.ev x) with
    | .one (.ref o g i off), some vs => if g = σ.g o then match σ.o o with
        | .row true E sz xs => match xs[i]? with
          | some cs => if vs.length = n ∧ off + n ≤ cs.length then some (.tup [], [(o, g, .row true E sz (xs.set i (cs.take off ++ vs ++ cs.drop (off + n))))]) else none
          | none => none
        | _ => none
      else none
    | _, _ => none
  | .nck x => match σ.ev x with
    | .one (.d (.ptr cs)) => some (.one (.d (.ptr cs)), [])
    | .one (.ref o g i off) => some (.one (.ref o g i off), [])
    | .one (.d (.fn f cs)) => some (.one (.d (.fn f cs)), [])
    | .one (.fn f cs) => some (.one (.fn f cs), [])
    | _ => none
  | .bin op x y => (binOp op (σ.ev x) (σ.ev y)).map fun v => (v, [])
  | .eqb neg x y => match asB (σ.ev x), asB (σ.ev y) with
    | some a, some b => some (.one (.d (.bool (if neg then !(a == b) else a == b))), [])
    | _, _ => none
  | .eqs neg ks x y => match σ.ev x, σ.ev y with
    | .agg a, .agg b => match pureCells a, pureCells b with
      | some p, some q => (eqCells ks p q).map fun e => (.one (.d (.bool (if neg then !e else e))), [])
      | _, _ => none
    | _, _ => none
  | .eqp neg x y => match σ.ev x, σ.ev y with
    | .one (.d .nilp), .one (.d .nilp) => some (.one (.d (.bool !neg)), [])
    | .one (.d .nilp), .one (.ref _ _ _ _) | .one (.ref _ _ _ _), .one (.d .nilp) => some (.one (.d (.bool neg)), [])
    | .one (.d .nilp), .one (.d (.ptr _)) | .one (.d (.ptr _)), .one (.d .nilp) => some (.one (.d (.bool neg)), [])
    | _, _ => none
  | .un op x => match op, σ.ev x with
    | .not, .one (.d (.bool b)) => some (.one (.d (.bool !b)), [])
    | .neg, .one (.d (.int k n)) => some (.one (.d (.int k (k.wrap (0 - n)))), [])
    | _, _ => none
  | .cvi k x => (asI (σ.ev x)).map fun n => (.one (.d (.int k (k.wrap n))), [])
  | .cvs x => match σ.ev x with
    | .one (.d (.str s)) => some (.one (.d (.str s)), [])
    | _ => none
  | .msl E sz bytes z n c => match asI (σ.ev n), asI (σ.ev c) with
    | some n, some c => if 0 ≤ n ∧ n = c ∧ n * bytes ≤ 140737488355328 ∧ n ≤ 9223372036854775807 ∧ z.length = sz then
        some (.one (.view d (σ.g d + 1) 0 n.toNat), [(d, σ.g d + 1, .row true E sz (List.replicate n.toNat (z.map kC)))]) else none
    | _, _ => none
  | .slc sz x lo hi mx => match mx, optI σ lo, optI σ hi with
    | none, some lo, some hi => match σ.ev x with
      | .one (.d (.sl xs)) => if xs.all (fun x => decide (x.length = sz)) = false then none else (bounds xs.length xs.length lo hi).map fun p => (.one (.d (.sl ((xs.drop p.1).take (p.2 - p.1)))), [])
      | .one (.view o g l n) => if g = σ.g o then match σ.o o with
          | .row _ _ s _ => if s = sz then (bounds n n lo hi).map fun p => (.one (.view o g (l + p.1) (p.2 - p.1)), []) else none
          | _ => none
        else none
      | .one .nils => (bounds 0 0 lo hi).map fun _ => (.one .nils, [])
      | _ => none
    | some mx, some lo, some hi => match σ.ev x, asI (σ.ev mx), lo, hi with
      | .one (.d (.sl _)), some 0, some 0, some 0 | .one (.view _ _ _ _), some 0, some 0, some 0 | .one .nils, some 0, some 0, some 0 => some (.one .nils, [])
      | _, _, _, _ => none
    | _, _, _ => none
  | .slt x lo hi => match optI σ lo, optI σ hi, σ.ev x with
    | some lo, some hi, .one (.d (.str s)) => (bounds s.size s.size lo hi).map fun p => (.one (.d (.str (s.extract p.1 p.2))), [])
    | _, _, _ => none
  | .fad x off => match σ.ev x with
    | .one (.d (.ptr cs)) => if off < cs.length then some (.one (.d (.ptr (cs.drop off))), []) else none
    | .one (.ref o g i k) => some (.one (.ref o g i (k + off)), [])
    | _ => none
  | .fld agg off n x => match σ.ev x with
    | .agg cs => (ldVal agg n (cs.drop off)).map fun v => (v, [])
    | _ => none
  | .iad sz x i => match σ.ev x, asI (σ.ev i) with
    | .one (.d (.sl xs)), some i => match idx i xs.length with
      | some k => match xs[k]? with
        | some cs => if cs.length = sz then some (.one (.d (.ptr cs)), []) else none
        | none => none
      | none => none
    | .one (.view o g lo n), some i => if g = σ.g o then match σ.o o with
        | .row _ _ s _ => if s = sz then (idx i n).map fun k => (.one (.ref o g (lo + k) 0), []) else none
        | _ => none
      else none
    | _, _ => none
  | .iaa n sz x i => match σ.ev x, asI (σ.ev i) with
    | .one (.d (.ptr cs)), some i => match idx i n with
      | some k => if k * sz < cs.length then some (.one (.d (.ptr (cs.drop (k * sz)))), []) else none
      | none => none
    | .one (.ref o g j off), some i => (idx i n).map fun k => (.one (.ref o g j (off + k * sz)), [])
    | _, _ => none
  | .ixs x i => match σ.ev x, asI (σ.ev i) with
    | .one (.d (.str s)), some i => match idx i s.size with
      | some k => (s[k]?).map fun b => (.one (.d (.int .u8 b.toNat)), [])
      | none => none
    | _, _ => none
  | .ixa n sz agg x i => match σ.ev x, asI (σ.ev i) with
    | .agg cs, some i => match idx i n with
      | some k => (ldVal agg sz (cs.drop (k * sz))).map fun v => (v, [])
      | none => none
    | _, _ => none
  | .lkp ks kagg agg z x k ok =>
    match mapOf σ (σ.ev x), (cellsOf (σ.ev k)).bind pureCells with
    | some (ka, va, es), some kc => if isAggV (σ.ev k) = kagg ∧ kc.length = ks.length ∧ ((ka = kagg ∧ va = agg) ∨ es = []) then match findE ks kc es with
      | some (some (_, v)) => (toVal agg (dm v)).map fun v => (if ok then .tup [v, .one (.d (.bool true))] else v, [])
      | some none => some (if ok then .tup [zval agg z, .one (.d (.bool false))] else zval agg z, [])
      | none => none
      else none
    | _, _ => none
  | .mup ks kagg m k x => match σ.ev m, (cellsOf (σ.ev k)).bind pureCells, (cellsOf (σ.ev x)).bind pureCells with
    | .one (.mpr o g), some kc, some vc => if g = σ.g o then match σ.o o with
        | .map true ka va es => if isAggV (σ.ev k) = kagg ∧ kc.length = ks.length ∧ ((ka = kagg ∧ isAggV (σ.ev x) = va) ∨ es = []) then match findE ks kc es with
            | some (some (i, _)) => some (.tup [], [(o, g, .map true ka va (es.set i (kc, vc)))])
            | some none => some (.tup [], [(o, g, .map true (isAggV (σ.ev k)) (isAggV (σ.ev x)) (es ++ [(kc, vc)]))])
            | none => none
          else none
        | _ => none
      else none
    | _, _, _ => none
  | .mkm none => some (.one (.mpr d (σ.g d + 1)), [(d, σ.g d + 1, .map true false false [])])
  | .rng x => match σ.ev x with
    | .one (.d (.mp ka va es)) => some (.one (.itr d (σ.g d + 1)), [(d, σ.g d + 1, .iter ka va es none)])
    | _ => none
  | .ent it => match σ.ev it with
    | .one (.itr o g) => if g = σ.g o then match σ.o o with
        | .iter ka va _ (some e) => match toVal ka (dm e.1), toVal va (dm e.2) with
          | some k, some v => some (.tup [k, v], [])
          | _, _ => none
        | _ => none
      else none
    | _ => none
  | .ext x i => match σ.ev x with
    | .tup vs => (vs[i]?).map fun v => (v, [])
    | _ => none
  | .lens x => match σ.ev x with
    | .one (.d (.sl xs)) => some (.one (.d (.int .i64 xs.length)), [])
    | .one (.view _ _ _ n) => some (.one (.d (.int .i64 n)), [])
    | .one .nils => some (.one (.d (.int .i64 0)), [])
    | _ => none
  | .lent x => match σ.ev x with
    | .one (.d (.str s)) => some (.one (.d (.int .i64 s.size)), [])
    | _ => none
  | .lenc n => some (.one (.d (.int .i64 n)), [])
  | .lenm x => match σ.ev x with
    | .one (.d (.mp _ _ es)) => some (.one (.d (.int .i64 es.length)), [])
    | .one (.mpr o g) => if g = σ.g o then match σ.o o with | .map _ _ _ es => some (.one (.d (.int .i64 es.length)), []) | _ => none else none
    | _ => none
  | .app E sz bytes _ s x => match σ.ev x with
    | .one xc => match elemsOf σ sz xc with
      | some new => match σ.ev s with
        | .one .nils => if new.length * bytes ≤ 140737488355328 ∧ new.length ≤ 9223372036854775807 then some (.one (.view d (σ.g d + 1) 0 new.length), [(d, σ.g d + 1, .row true E sz new)]) else none
        | .one (.view o g 0 n) => if g = σ.g o then match σ.o o with
            | .row true E' sz' xs => if E' = E ∧ sz' = sz ∧ n ≤ xs.length ∧ (n + new.length) * bytes ≤ 140737488355328 ∧ n + new.length ≤ 9223372036854775807 then
                some (.one (.view o (g + 1) 0 (n + new.length)), [(o, g + 1, .row true E sz (xs.take n ++ new))]) else none
            | _ => none
          else none
        | _ => none
      | none => none
    | _ => none
  | .mm isMax xs => match xs.map σ.ev with
    | v :: vs => (foldO (minmax isMax) v vs).map fun v => (v, [])
    | [] => none
  | .mkf f cs => (allSome (cs.map fun x => oneCell? (σ.ev x))).map fun cs => (.one (.fn f cs), [])
  | _ => none

end Go.Proofs.Ytnpdeecoejabgaa
