/- Types of the Go program, as plain data. Printed by a program of mine (gs.py). -/
import Derived.Test.YtnpdeecoejabgaaGC
set_option linter.unusedVariables false
set_option linter.unusedSimpArgs false
namespace Go.Proofs.Ytnpdeecoejabgaa
open Go Go.RowKit

def eInt (k : IntKind) (n : Int) : List C := [.int k n]
def eStr (s : ByteArray) : List C := [.str s]
def eBool (b : Bool) : List C := [.bool b]
def eC (c : C) : List C := [c]
def eSl {α : Type} (enc : α → List C) (xs : List α) : List C := [.sl (xs.map enc)]
def Get {α : Type} (xs : List α) (i : Nat) (K : α → Prop) : Prop := ∃ x, xs[i]? = some x ∧ K x
def Chr (s : ByteArray) (i : Int) (K : UInt8 → Prop) : Prop := 0 ≤ i ∧ ∃ b, s[i.toNat]? = some b ∧ K b
def Fits (n : Nat) (K : Prop) : Prop := n ≤ 140737488355328 ∧ K
structure TCall where
  parent : Int
  clock : Int
  kind : Int
  service : Int
  version : Int
  operation : Int
  wait : Int
  long : Int
  link : Int
  tag : Int
  fail : Bool
  deriving DecidableEq
def TCall.enc (x : TCall) : List C := [.int .u8 x.parent, .int .u8 x.clock, .int .u8 x.kind, .int .u8 x.service, .int .u8 x.version, .int .u8 x.operation, .int .u8 x.wait, .int .u8 x.long, .int .u8 x.link, .int .u8 x.tag, .bool x.fail]
structure TTree where
  slot : Int
  start : Int
  calls : List TCall
  deriving DecidableEq
def TTree.enc (x : TTree) : List C := [.int .u8 x.slot, .int .u8 x.start, .sl (List.map TCall.enc x.calls)]
structure TA24 where
  e0 : Int
  e1 : Int
  e2 : Int
  e3 : Int
  deriving DecidableEq
def TA24.enc (x : TA24) : List C := [.int .i8 x.e0, .int .i8 x.e1, .int .i8 x.e2, .int .i8 x.e3]
structure TSync where
  from_ : Int
  to_ : Int
  at_ : Int
  delay : Int
  slack : Int
  deriving DecidableEq
def TSync.enc (x : TSync) : List C := [.int .u8 x.from_, .int .u8 x.to_, .int .u8 x.at_, .int .u8 x.delay, .int .u8 x.slack]
structure TStory where
  trees : List TTree
  offsets : TA24
  syncs : List TSync
  wrong : Int
  deriving DecidableEq
def TStory.enc (x : TStory) : List C := [.sl (List.map TTree.enc x.trees), .int .i8 x.offsets.e0, .int .i8 x.offsets.e1, .int .i8 x.offsets.e2, .int .i8 x.offsets.e3, .sl (List.map TSync.enc x.syncs), .int .u8 x.wrong]
structure TA28 where
  e0 : Int
  e1 : Int
  e2 : Int
  deriving DecidableEq
def TA28.enc (x : TA28) : List C := [.int .u8 x.e0, .int .u8 x.e1, .int .u8 x.e2]
structure TValue where
  kind : Int
  text : ByteArray
  int : Int
  deriving DecidableEq
def TValue.enc (x : TValue) : List C := [.int .i64 x.kind, .str x.text, .int .i64 x.int]
structure TAttr where
  key : ByteArray
  value : TValue
  deriving DecidableEq
def TAttr.enc (x : TAttr) : List C := [.str x.key, .int .i64 x.value.kind, .str x.value.text, .int .i64 x.value.int]
structure TRef where
  trace : Int
  id : Int
  deriving DecidableEq
def TRef.enc (x : TRef) : List C := [.int .i64 x.trace, .int .i64 x.id]
structure TSpan where
  trace : Int
  id : Int
  parent : Int
  revision : Int
  clock : Int
  kind : Int
  service : ByteArray
  version : ByteArray
  operation : ByteArray
  start : Int
  end_ : Int
  error : Bool
  attrs : List TAttr
  links : List TRef
  deriving DecidableEq
def TSpan.enc (x : TSpan) : List C := [.int .i64 x.trace, .int .i64 x.id, .int .i64 x.parent, .int .i64 x.revision, .int .i64 x.clock, .int .i64 x.kind, .str x.service, .str x.version, .str x.operation, .int .i64 x.start, .int .i64 x.end_, .bool x.error, .sl (List.map TAttr.enc x.attrs), .sl (List.map TRef.enc x.links)]
structure TTrace where
  id : Int
  weight : Int
  spans : List TSpan
  deriving DecidableEq
def TTrace.enc (x : TTrace) : List C := [.int .i64 x.id, .int .i64 x.weight, .sl (List.map TSpan.enc x.spans)]
structure TGroup where
  service : ByteArray
  version : ByteArray
  operation : ByteArray
  deriving DecidableEq
def TGroup.enc (x : TGroup) : List C := [.str x.service, .str x.version, .str x.operation]
structure TTotal where
  spans : Int
  errors : Int
  duration : Int
  traces : Int
  deriving DecidableEq
def TTotal.enc (x : TTotal) : List C := [.int .i64 x.spans, .int .i64 x.errors, .int .i64 x.duration, .int .i64 x.traces]
structure TLine where
  group : TGroup
  total : TTotal
  deriving DecidableEq
def TLine.enc (x : TLine) : List C := [.str x.group.service, .str x.group.version, .str x.group.operation, .int .i64 x.total.spans, .int .i64 x.total.errors, .int .i64 x.total.duration, .int .i64 x.total.traces]
structure TExchange where
  from_ : Int
  to_ : Int
  sent : Int
  received : Int
  least : Int
  deriving DecidableEq
def TExchange.enc (x : TExchange) : List C := [.int .i64 x.from_, .int .i64 x.to_, .int .i64 x.sent, .int .i64 x.received, .int .i64 x.least]
structure TRemoved where
  partition : Int
  service : ByteArray
  spans : Int
  errors : Int
  deriving DecidableEq
def TRemoved.enc (x : TRemoved) : List C := [.int .i64 x.partition, .str x.service, .int .i64 x.spans, .int .i64 x.errors]
structure TLate where
  partition : Int
  spans : Int
  deriving DecidableEq
def TLate.enc (x : TLate) : List C := [.int .i64 x.partition, .int .i64 x.spans]
structure TRetained where
  traces : List TTrace
  exchanges : List TExchange
  removed : List TRemoved
  late : List TLate
  deriving DecidableEq
def TRetained.enc (x : TRetained) : List C := [.sl (List.map TTrace.enc x.traces), .sl (List.map TExchange.enc x.exchanges), .sl (List.map TRemoved.enc x.removed), .sl (List.map TLate.enc x.late)]
theorem eqk_TGroup (a b : TGroup) : eqCells [.s, .s, .s] (TGroup.enc a) (TGroup.enc b) = some (decide (a = b)) := by
  cases a; cases b; simp [eqCells, eqCell, TGroup.enc, Bool.and_assoc]

end Go.Proofs.Ytnpdeecoejabgaa
