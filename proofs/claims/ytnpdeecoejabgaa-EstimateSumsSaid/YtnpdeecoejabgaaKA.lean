/- THE ABSTRACT MACHINE, 1: its code, and how the translation's code becomes it. -/
import Derived.Below
import Derived.KernelRfl
namespace Go.Proofs.Ytnpdeecoejabgaa
open Go

/-- A constant cell. -/
inductive K where
  | bool (b : Bool)
  | int (k : IntKind) (n : Int)
  | str (s : ByteArray)
  | nils
  | nilp
  | nilm
  | nilf
  deriving Inhabited

/-- How a cell is compared. -/
inductive CK where
  | b
  | i
  | s
  deriving Inhabited, DecidableEq

inductive AX where
  | t (n : Nat)
  | c (k : K)
  | f (n : Nat)
  deriving Inhabited

inductive AOp where
  | mov (x : AX)
  | pick (c a b : AX)
  | alloc (E : Nat) (agg : Bool) (z : List K)
  | box (E : Nat) (agg : Bool) (n : Nat) (x : AX)
  | bld (z : List K) (ps : List (Nat × Nat × AX))
  | bsl (E : Nat) (sz n : Nat) (z : List K) (ps : List (Nat × AX))
  | ld (agg : Bool) (n : Nat) (a : AX)
  | st (n : Nat) (a x : AX)
  | nck (x : AX)
  | bin (op : BinOp) (x y : AX)
  | eqb (neg : Bool) (x y : AX)
  | eqs (neg : Bool) (ks : List CK) (x y : AX)
  | eqp (neg : Bool) (x y : AX)
  | un (op : UnOp) (x : AX)
  | cvi (k : IntKind) (x : AX)
  | cvs (x : AX)
  | msl (E : Nat) (sz bytes : Nat) (z : List K) (n c : AX)
  | slc (sz : Nat) (x : AX) (lo hi mx : Option AX)
  | slt (x : AX) (lo hi : Option AX)
  | sla (n sz : Nat) (x : AX) (lo hi : Option AX)
  | fad (x : AX) (off : Nat)
  | fld (agg : Bool) (off n : Nat) (x : AX)
  | iad (sz : Nat) (x i : AX)
  | iaa (n sz : Nat) (x i : AX)
  | ixs (x i : AX)
  | ixa (n sz : Nat) (agg : Bool) (x i : AX)
  | lkp (ks : List CK) (kagg : Bool) (agg : Bool) (z : List K) (x k : AX) (ok : Bool)
  | mup (ks : List CK) (kagg : Bool) (m k x : AX)
  | mkm (r : Option AX)
  | rng (x : AX)
  | nxt (it : AX)
  | ent (it : AX)
  | ext (x : AX) (i : Nat)
  | call (f : Nat) (xs : List AX)
  | callv (f : AX) (xs : List AX)
  | lens (x : AX)
  | lent (x : AX)
  | lenc (n : Nat)
  | lenm (x : AX)
  | cap (x : AX)
  | isn (x : AX)
  | app (E : Nat) (sz bytes : Nat) (z : List K) (s x : AX)
  | mm (isMax : Bool) (xs : List AX)
  | mkf (f : Nat) (cs : List AX)
  | bad (why : Nat)
  deriving Inhabited

structure AR where
  dst : Option Nat
  op : AOp
  aft : List Nat
  grd : Option (Nat × Bool)
  deriving Inhabited

inductive ACode where
  | skip
  | reg (ops : List AR) (draw : Bool)
  | seq (a b : ACode)
  | cond (c : AX) (a b : ACode)
  | blk (id : Nat) (c : ACode)
  | loop (c : ACode)
  | exit (id : Nat)
  | ret
  | bad
  deriving Inhabited

def toK : Value → Option K
  | .bool b => some (.bool b)
  | .int k n => some (.int k n)
  | .string s => some (.str s)
  | .slice none 0 0 => some .nils
  | .pointer none => some .nilp
  | .map none => some .nilm
  | .nilFunc => some .nilf
  | _ => none

def toX : Operand → Option AX
  | .tmp t => some (.t t)
  | .const v => (toK v).map .c
  | .func f => some (.f f)
  | .global _ => none

def allSome {α : Type} : List (Option α) → Option (List α)
  | [] => some []
  | none :: _ => none
  | some a :: r => (allSome r).map (a :: ·)

def isAggB : TypeDesc → Bool
  | .struct _ | .array _ _ => true
  | _ => false

structure TI where
  size : Nat
  bytes : Nat
  agg : Bool
  zero : List K

def zOk : Value → Bool → Nat → Bool
  | .agg _, b, _ => b
  | .tuple _, _, _ => false
  | _, b, n => !b && n == 1

def tinfo (P : Program) (t : Nat) : Option TI :=
  match P.info? t, P.underlying t with
  | some i, some d => match i.zero with
    | some z => match allSome (z.cells.toList.map toK) with
      | some ks => if ks.length == i.size && zOk z (isAggB d) i.size then some ⟨i.size, i.bytes, isAggB d, ks⟩ else none
      | none => none
    | none => none
  | _, _ => none

def plainFs (P : Program) (rec : Nat → Option (List CK)) : List Field → Nat → Option (List CK)
  | [], _ => some []
  | f :: fs, off =>
    match rec f.type, P.info? f.type, P.underlying f.type with
    | some ks, some i, some u =>
      if f.offset == off && f.name != "_" && i.size == ks.length && (isAggB u || ks.length == 1) then (plainFs P rec fs (off + ks.length)).map (ks ++ ·) else none
    | _, _, _ => none

/-- A type whose values are compared cell by cell. -/
def plainT (P : Program) : Nat → Nat → Option (List CK)
  | 0, _ => none
  | d + 1, t =>
    match P.underlying t with
    | some .bool => some [.b]
    | some (.int _) => some [.i]
    | some .string => some [.s]
    | some (.struct fs) => if P.stoodInHeld t then none else plainFs P (plainT P d) fs.toList 0
    | _ => none

def compArgs (xs : Array Operand) : Option (List AX) := allSome (xs.toList.map toX)

def optX : Option Operand → Option (Option AX)
  | none => some none
  | some x => (toX x).map some

def compBuiltin (P : Program) (b : Builtin) (args : Array Operand) (tys : Array TypeId) : Option AOp :=
  match b, compArgs args, tys.toList with
  | .len, some [x], [t] => match P.underlying t with
    | some .string => some (.lent x)
    | some (.slice _) => some (.lens x)
    | some (.array n _) => some (.lenc n)
    | some (.pointer a) => match P.underlying a with | some (.array n _) => some (.lenc n) | _ => none
    | some (.map _ _) => some (.lenm x)
    | _ => none
  | .cap, some [x], [t] => match P.underlying t with
    | some (.slice _) => some (.cap x)
    | _ => none
  | .append, some [s, x], [t, u] => match P.underlying t with
    | some (.slice e) => if t == u then (tinfo P e).bind fun i => if 0 < i.size then some (.app e i.size i.bytes i.zero s x) else none else none
    | _ => none
  | .min, some (x :: xs), _ => some (.mm false (x :: xs))
  | .max, some (x :: xs), _ => some (.mm true (x :: xs))
  | _, _, _ => none

def compCall (P : Program) (c : Call) : Option AOp :=
  match c.callee with
  | .builtin b => compBuiltin P b c.args c.argTypes
  | .value (.func f) => match P.funcs[f]? with
    | some fn => if fn.body.isSome && !(fn.name == "runtime.NumGoroutine") then (compArgs c.args).map (.call f) else none
    | none => none
  | .value (.tmp t) => (compArgs c.args).map (.callv (.t t))
  | _ => none

def compBin (P : Program) (op : BinOp) (t : Nat) (x y : AX) : Option AOp :=
  match P.underlying t with
  | some (.int _) | some .string => some (.bin op x y)
  | some .bool => match op with
    | .eql => some (.eqb false x y)
    | .neq => some (.eqb true x y)
    | _ => none
  | some (.struct _) | some (.array _ _) => match op, plainT P 8 t with
    | .eql, some ks => if P.eqGuardType P.depth t then none else some (.eqs false ks x y)
    | .neq, some ks => if P.eqGuardType P.depth t then none else some (.eqs true ks x y)
    | _, _ => none
  | some (.pointer e) => match P.info? e, op with
    | some i, .eql => if i.size == 0 then none else some (.eqp false x y)
    | some i, .neq => if i.size == 0 then none else some (.eqp true x y)
    | _, _ => none
  | some (.slice _) => match op, y with
    | .eql, .c .nils => some (.isn x)
    | _, _ => none
  | _ => none

def compOp (P : Program) : Op → Option AOp
  | .move x | .assign x => (toX x).map .mov
  | .pick c a b => match toX c, toX a, toX b with | some c, some a, some b => some (.pick c a b) | _, _, _ => none
  | .alloc e => (tinfo P e).bind fun i => if 0 < i.size then some (.alloc e i.agg i.zero) else none
  | .box e x => match toX x, tinfo P e with | some x, some i => if 0 < i.size then some (.box e i.agg i.size x) else none | _, _ => none
  | .build t ps => match tinfo P t, P.underlying t with
    | some i, some (.struct fs) =>
      (allSome (ps.toList.map fun p => match fs[p.1]?, toX p.2 with
        | some f, some x => (P.info? f.type).map fun j => (f.offset, j.size, x)
        | _, _ => none)).bind fun l => if i.agg && (fs.toList.all fun f => (P.info? f.type).isSome) then some (.bld i.zero l) else none
    | some i, some (.array _ e) =>
      (P.info? e).bind fun j => (allSome (ps.toList.map fun p => (toX p.2).map fun x => (p.1 * j.size, j.size, x))).bind fun l => if i.agg then some (.bld i.zero l) else none
    | _, _ => none
  | .buildSlice t n ps => match P.underlying t with
    | some (.slice e) => (tinfo P e).bind fun i =>
      if 0 < i.size && n * i.size ≤ 16777216 then (allSome (ps.toList.map fun p => (toX p.2).map fun x => (p.1, x))).map fun l => .bsl e i.size n i.zero l else none
    | _ => none
  | .load t a => match toX a, P.info? t, P.underlying t with
    | some a, some i, some d => if isAggB d || i.size == 1 then some (.ld (isAggB d) i.size a) else none
    | _, _, _ => none
  | .store t a x => match toX a, toX x, P.info? t with
    | some a, some x, some i => some (.st i.size a x)
    | _, _, _ => none
  | .nilCheck x => (toX x).map .nck
  | .binOp op t x y _ => match toX x, toX y with | some x, some y => compBin P op t x y | _, _ => none
  | .unOp op _ x => (toX x).map (.un op)
  | .convert s d x => match toX x, P.underlying s, P.underlying d with
    | some x, some (.int _), some (.int k) => some (.cvi k x)
    | some x, some .string, some .string => some (.cvs x)
    | _, _, _ => none
  | .makeSlice t n c => match toX n, toX c, P.underlying t with
    | some n, some c, some (.slice e) => (tinfo P e).bind fun i => if 0 < i.size then some (.msl e i.size i.bytes i.zero n c) else none
    | _, _, _ => none
  | .slice t x lo hi mx => match P.underlying t, toX x, optX lo, optX hi, optX mx with
    | some (.slice e), some x, some lo, some hi, some mx => (P.info? e).map fun i => .slc i.size x lo hi mx
    | some .string, some x, some lo, some hi, some none => some (.slt x lo hi)
    | some (.array n e), some x, some lo, some hi, some none => (P.info? e).map fun i => .sla n i.size x lo hi
    | _, _, _, _, _ => none
  | .fieldAddr s x f => match P.underlying s, toX x with
    | some (.struct fs), some x => (fs[f]?).bind fun fd => (P.info? fd.type).bind fun i => if 0 < i.size then some (.fad x fd.offset) else none
    | _, _ => none
  | .field s x f => match P.underlying s, toX x with
    | some (.struct fs), some x => (fs[f]?).bind fun fd => match P.info? fd.type, P.underlying fd.type with
      | some i, some d => if isAggB d || i.size == 1 then some (.fld (isAggB d) fd.offset i.size x) else none
      | _, _ => none
    | _, _ => none
  | .indexAddr t x i => match P.underlying t, toX x, toX i with
    | some (.slice e), some x, some i => (P.info? e).map fun j => .iad j.size x i
    | some (.array n e), some x, some i => (P.info? e).map fun j => .iaa n j.size x i
    | _, _, _ => none
  | .index t x i => match P.underlying t, toX x, toX i with
    | some .string, some x, some i => some (.ixs x i)
    | some (.array n e), some x, some i => match P.info? e, P.underlying e with
      | some j, some d => if isAggB d || j.size == 1 then some (.ixa n j.size (isAggB d) x i) else none
      | _, _ => none
    | _, _, _ => none
  | .lookup t x k ok => match P.underlying t, toX x, toX k with
    | some (.map kt e), some x, some k => match tinfo P e, plainT P 8 kt, P.underlying kt with
      | some i, some ks, some u => some (.lkp ks (isAggB u) i.agg i.zero x k ok)
      | _, _, _ => none
    | _, _, _ => none
  | .mapUpdate t m k x => match P.underlying t, toX m, toX k, toX x with
    | some (.map kt _), some m, some k, some x => match plainT P 8 kt, P.underlying kt with
      | some ks, some u => some (.mup ks (isAggB u) m k x)
      | _, _ => none
    | _, _, _, _ => none
  | .makeMap _ none => some (.mkm none)
  | .range t x => match P.underlying t, toX x with
    | some (.map _ _), some x => some (.rng x)
    | _, _ => none
  | .next it false => (toX it).map .nxt
  | .entry it => (toX it).map .ent
  | .extract x i => (toX x).map fun x => .ext x i
  | .call c => compCall P c
  | .makeFunc (.func f) first cs => if first.isEmpty then (compArgs cs).map (.mkf f) else none
  | _ => none

def compAft (o : Oper) : List Nat := (o.after.toList.filter (Region.binds .any)).map (·.on)

/-- n: how many slots there are. -/
def dstOk (n : Nat) : Option Nat → Bool
  | none => true
  | some d => decide (d < n)

def compR (P : Program) (n : Nat) (ops : Array Oper) (o : Oper) : AR :=
  let op := if dstOk n o.dst then (compOp P o.op).getD (.bad 0) else .bad 2
  match o.guard with
  | none => { dst := o.dst, op, aft := compAft o, grd := none }
  | some (g, b) => match (ops[g]?).bind (·.dst) with
    | some s => if decide (s < n) && dstOk n o.dst then { dst := o.dst, op, aft := compAft o, grd := some (s, b) } else { dst := none, op := .bad 2, aft := compAft o, grd := none }
    | none => { dst := none, op := .bad 1, aft := compAft o, grd := none }

def comp (P : Program) (n : Nat) : Code → ACode
  | .skip => .skip
  | .region _ ops draw => .reg (ops.toList.map (compR P n ops)) draw
  | .seq a b => .seq (comp P n a) (comp P n b)
  | .cond c a b => match toX c with
    | some c => .cond c (comp P n a) (comp P n b)
    | none => .bad
  | .block id c => .blk id (comp P n c)
  | .loop c => .loop (comp P n c)
  | .exit id => .exit id
  | .ret => .ret
  | _ => .bad

end Go.Proofs.Ytnpdeecoejabgaa
