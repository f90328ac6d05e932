/- Go functions: their shallow forms, and that they keep their contracts. Printed by a program of mine (gs.py). -/
import Derived.Test.YtnpdeecoejabgaaFAT
import Derived.Test.YtnpdeecoejabgaaProg
set_option maxRecDepth 100000
set_option linter.unusedVariables false
set_option linter.unusedSimpArgs false
namespace Go.Proofs.Ytnpdeecoejabgaa
open Go Go.RowKit

theorem follows_mixed : (Try.prog).follows .mixedOrders = true := by kernel_rfl

def r36_0 : List AR := [⟨some 0, .mov (.c .nils), [], none⟩]
def r36_1 : List AR := [⟨some 1, .bld [.int .i64 0, .int .i64 0, .int .i64 0, .int .i64 0, .int .i64 0, .int .i64 0, .str ⟨#[]⟩, .str ⟨#[]⟩, .str ⟨#[]⟩, .int .i64 0, .int .i64 0, .bool false, .nils, .nils] [(0, 1, .c (.int .i64 5)), (1, 1, .c (.int .i64 1)), (4, 1, .c (.int .i64 1)), (5, 1, .c (.int .i64 3)), (6, 1, .c (.str ⟨#[97, 112, 105]⟩)), (7, 1, .c (.str ⟨#[118, 49]⟩)), (8, 1, .c (.str ⟨#[103, 101, 116]⟩)), (10, 1, .c (.int .i64 10))], [], none⟩,
  ⟨some 2, .bld [.int .i64 0, .int .i64 0, .int .i64 0, .int .i64 0, .int .i64 0, .int .i64 0, .str ⟨#[]⟩, .str ⟨#[]⟩, .str ⟨#[]⟩, .int .i64 0, .int .i64 0, .bool false, .nils, .nils] [(0, 1, .c (.int .i64 5)), (1, 1, .c (.int .i64 2)), (4, 1, .c (.int .i64 1)), (5, 1, .c (.int .i64 3)), (6, 1, .c (.str ⟨#[97, 112, 105]⟩)), (7, 1, .c (.str ⟨#[118, 50]⟩)), (8, 1, .c (.str ⟨#[103, 101, 116]⟩)), (9, 1, .c (.int .i64 3)), (10, 1, .c (.int .i64 8)), (11, 1, .c (.bool true))], [], none⟩,
  ⟨some 3, .bsl 58 14 2 [.int .i64 0, .int .i64 0, .int .i64 0, .int .i64 0, .int .i64 0, .int .i64 0, .str ⟨#[]⟩, .str ⟨#[]⟩, .str ⟨#[]⟩, .int .i64 0, .int .i64 0, .bool false, .nils, .nils] [(0, .t 1), (1, .t 2)], [0, 1], none⟩,
  ⟨some 4, .bld [.int .i64 0, .int .i64 0, .nils] [(0, 1, .c (.int .i64 5)), (1, 1, .c (.int .i64 4)), (2, 1, .t 3)], [2], none⟩,
  ⟨some 5, .bsl 53 3 1 [.int .i64 0, .int .i64 0, .nils] [(0, .t 4)], [3], none⟩,
  ⟨some 0, .mov (.t 5), [4, 0, 1, 2, 3, 4], none⟩]
def c36 : ACode := .seq (.reg r36_0 false) (.seq (.reg r36_1 false) (.ret))
theorem body36 : Try.f36.body.map (comp Try.prog 6) = some c36 := by kernel_rfl
theorem res36 : allSome (Try.f36.results.toList.map (compRes Try.prog)) = some [.s 0] := by kernel_rfl
theorem cok36 {S : FSpec} (h : ∀ args K, S args K → args.all argOk = true ∧ args.length ≤ 6 ∧ AW Try.prog 6 (some ownP) c36 (initS args) (retPost [.s 0] args K)) : COK Try.prog 36 S := of_body Try.func36 Try.ntmps36 body36 res36 h

/-- sleuth/sleuthlaw25.example -/
def W36 (K : (List TTrace) → Prop) : Prop :=
  K [(TTrace.mk 5 4 [(TSpan.mk 5 1 0 0 1 3 (⟨#[97, 112, 105]⟩ : ByteArray) (⟨#[118, 49]⟩ : ByteArray) (⟨#[103, 101, 116]⟩ : ByteArray) 0 10 false [] []), (TSpan.mk 5 2 0 0 1 3 (⟨#[97, 112, 105]⟩ : ByteArray) (⟨#[118, 50]⟩ : ByteArray) (⟨#[103, 101, 116]⟩ : ByteArray) 3 8 true [] [])])]

def S36 : FSpec := fun args K => ∃ (Kr : (List TTrace) → Prop), args = [] ∧ W36  Kr ∧ ∀ r, Kr r → K (.one (.d (.sl (List.map TTrace.enc r)))) []

theorem en36 : enters Try.prog 36 = true := by unfold enters; rw [Try.func36]; rfl
theorem cl36 {Kr : (List TTrace) → Prop} (h : W36  Kr) : S36 [] (fun rv rows => ∃ r, rv = (.one (.d (.sl (List.map TTrace.enc r)))) ∧ rows = [] ∧ Kr r) := ⟨Kr, rfl, h, fun r hr => ⟨r, rfl, rfl, hr⟩⟩

theorem ok36 : COK Try.prog 36 S36 := by
  refine cok36 fun args K0 hS => ?_
  obtain ⟨K, rfl, h, hK⟩ := hS
  refine ⟨by kernel_rfl, by simp, ?_⟩
  unfold W36 at h
  refine AW.sregL [(0, none)] (by kernel_rfl) ?_
  refine l_ds 0 (.one (.nils)) ?_
  refine l_nil ?_
  refine AW.sregL [(0, none), (1, none), (2, none), (3, none), (4, none), (5, none)] (by kernel_rfl) ?_
  refine l_ds 1 (.agg [.d (.int .i64 5), .d (.int .i64 1), .d (.int .i64 0), .d (.int .i64 0), .d (.int .i64 1), .d (.int .i64 3), .d (.str (⟨#[97, 112, 105]⟩ : ByteArray)), .d (.str (⟨#[118, 49]⟩ : ByteArray)), .d (.str (⟨#[103, 101, 116]⟩ : ByteArray)), .d (.int .i64 0), .d (.int .i64 10), .d (.bool false), .nils, .nils]) ?_
  refine l_ds 2 (.agg [.d (.int .i64 5), .d (.int .i64 2), .d (.int .i64 0), .d (.int .i64 0), .d (.int .i64 1), .d (.int .i64 3), .d (.str (⟨#[97, 112, 105]⟩ : ByteArray)), .d (.str (⟨#[118, 50]⟩ : ByteArray)), .d (.str (⟨#[103, 101, 116]⟩ : ByteArray)), .d (.int .i64 3), .d (.int .i64 8), .d (.bool true), .nils, .nils]) ?_
  refine l_det (some 3) (.one (.view 3 1 0 2), [(3, 1, .row true 58 14 [[.d (.int .i64 5), .d (.int .i64 1), .d (.int .i64 0), .d (.int .i64 0), .d (.int .i64 1), .d (.int .i64 3), .d (.str (⟨#[97, 112, 105]⟩ : ByteArray)), .d (.str (⟨#[118, 49]⟩ : ByteArray)), .d (.str (⟨#[103, 101, 116]⟩ : ByteArray)), .d (.int .i64 0), .d (.int .i64 10), .d (.bool false), .nils, .nils], [.d (.int .i64 5), .d (.int .i64 2), .d (.int .i64 0), .d (.int .i64 0), .d (.int .i64 1), .d (.int .i64 3), .d (.str (⟨#[97, 112, 105]⟩ : ByteArray)), .d (.str (⟨#[118, 50]⟩ : ByteArray)), .d (.str (⟨#[103, 101, 116]⟩ : ByteArray)), .d (.int .i64 3), .d (.int .i64 8), .d (.bool true), .nils, .nils]])]) (by kernel_rfl) ?_
  refine l_ds 4 (.agg [.d (.int .i64 5), .d (.int .i64 4), .view 3 1 0 2]) ?_
  refine l_det (some 5) (.one (.view 5 1 0 1), [(5, 1, .row true 53 3 [[.d (.int .i64 5), .d (.int .i64 4), .view 3 1 0 2]])]) (by kernel_rfl) ?_
  refine l_ds 0 (.one (.view 5 1 0 1)) ?_
  refine l_nil ?_
  refine AW.ret ?_
  exact q_end [.one (.view 5 1 0 1)] [false] [.one (.d (.sl [[.int .i64 5, .int .i64 4, .sl [[.int .i64 5, .int .i64 1, .int .i64 0, .int .i64 0, .int .i64 1, .int .i64 3, .str (⟨#[97, 112, 105]⟩ : ByteArray), .str (⟨#[118, 49]⟩ : ByteArray), .str (⟨#[103, 101, 116]⟩ : ByteArray), .int .i64 0, .int .i64 10, .bool false, .sl [], .sl []], [.int .i64 5, .int .i64 2, .int .i64 0, .int .i64 0, .int .i64 1, .int .i64 3, .str (⟨#[97, 112, 105]⟩ : ByteArray), .str (⟨#[118, 50]⟩ : ByteArray), .str (⟨#[103, 101, 116]⟩ : ByteArray), .int .i64 3, .int .i64 8, .bool true, .sl [], .sl []]]]]))] [] [5, 3] (by kernel_rfl) ⟨by kernel_rfl, by kernel_rfl⟩ (by kernel_rfl) (by kernel_rfl) (by kernel_rfl) (by kernel_rfl) (Eq.mp (by kernel_rfl) (hK [(TTrace.mk 5 4 [(TSpan.mk 5 1 0 0 1 3 (⟨#[97, 112, 105]⟩ : ByteArray) (⟨#[118, 49]⟩ : ByteArray) (⟨#[103, 101, 116]⟩ : ByteArray) 0 10 false [] []), (TSpan.mk 5 2 0 0 1 3 (⟨#[97, 112, 105]⟩ : ByteArray) (⟨#[118, 50]⟩ : ByteArray) (⟨#[103, 101, 116]⟩ : ByteArray) 3 8 true [] [])])] h)) (.inr rfl)
def r37_0 : List AR := [⟨some 2, .mov (.c .nilf), [], none⟩,
  ⟨some 3, .mov (.c (.bool false)), [0], none⟩]
def r37_1 : List AR := [⟨some 4, .mov (.t 0), [], none⟩]
def r37_2 : List AR := [⟨some 6, .bin .eql (.t 4) (.c (.int .i64 1)), [], none⟩,
  ⟨some 5, .mov (.t 6), [0], none⟩]
def r37_3 : List AR := [⟨some 2, .mov (.f 62), [], none⟩,
  ⟨some 3, .mov (.c (.bool true)), [0, 0], none⟩]
def r37_4 : List AR := [⟨some 8, .bin .eql (.t 4) (.c (.int .i64 2)), [], none⟩,
  ⟨some 7, .mov (.t 8), [0], none⟩]
def r37_5 : List AR := [⟨some 2, .mov (.f 63), [], none⟩,
  ⟨some 3, .mov (.c (.bool true)), [0, 0], none⟩]
def r37_6 : List AR := [⟨some 10, .bin .eql (.t 4) (.c (.int .i64 3)), [], none⟩,
  ⟨some 9, .mov (.t 10), [0], none⟩]
def r37_7 : List AR := [⟨some 2, .mov (.f 64), [], none⟩,
  ⟨some 3, .mov (.c (.bool true)), [0, 0], none⟩]
def r37_8 : List AR := [⟨some 2, .mov (.c .nilf), [], none⟩,
  ⟨some 3, .mov (.c (.bool false)), [0, 0], none⟩]
def c37 : ACode := .seq (.reg r37_0 false) (.seq (.seq (.reg r37_1 false) (.blk 0 (.seq (.reg r37_2 false) (.cond (.t 5) (.seq (.reg r37_3 false) (.ret)) (.seq (.reg r37_4 false) (.cond (.t 7) (.seq (.reg r37_5 false) (.ret)) (.seq (.reg r37_6 false) (.cond (.t 9) (.seq (.reg r37_7 false) (.ret)) (.skip))))))))) (.seq (.reg r37_8 false) (.ret)))
theorem body37 : Try.f37.body.map (comp Try.prog 11) = some c37 := by kernel_rfl
theorem res37 : allSome (Try.f37.results.toList.map (compRes Try.prog)) = some [.s 2, .s 3] := by kernel_rfl
theorem cok37 {S : FSpec} (h : ∀ args K, S args K → args.all argOk = true ∧ args.length ≤ 11 ∧ AW Try.prog 11 (some ownP) c37 (initS args) (retPost [.s 2, .s 3] args K)) : COK Try.prog 37 S := of_body Try.func37 Try.ntmps37 body37 res37 h

/-- sleuth/estimate.grouping -/
def W37 (level_37 : Int) (K : (C × Bool) → Prop) : Prop :=
  Cond (decide (level_37 = 1)) (K ((.fn 62 []), true)) (Cond (decide (level_37 = 2)) (K ((.fn 63 []), true)) (Cond (decide (level_37 = 3)) (K ((.fn 64 []), true)) (K (.nilf, false))))

def S37 : FSpec := fun args K => ∃ (level_37 : Int), ∃ (Kr : (C × Bool) → Prop), args = [.one (.d (.int .i64 level_37))] ∧ W37 level_37 Kr ∧ ∀ r, Kr r → K (.tup [.one (.d r.1), .one (.d (.bool r.2))]) []

theorem en37 : enters Try.prog 37 = true := by unfold enters; rw [Try.func37]; rfl
theorem cl37 (level_37 : Int) {Kr : (C × Bool) → Prop} (h : W37 level_37 Kr) : S37 [.one (.d (.int .i64 level_37))] (fun rv rows => ∃ r, rv = (.tup [.one (.d r.1), .one (.d (.bool r.2))]) ∧ rows = [] ∧ Kr r) := ⟨level_37, Kr, rfl, h, fun r hr => ⟨r, rfl, rfl, hr⟩⟩

theorem ok37 : COK Try.prog 37 S37 := by
  refine cok37 fun args K0 hS => ?_
  obtain ⟨level_37, K, rfl, h, hK⟩ := hS
  refine ⟨by kernel_rfl, by simp, ?_⟩
  unfold W37 at h
  refine AW.sregL [(0, none), (1, none)] (by kernel_rfl) ?_
  refine l_ds 2 (.one (.d .nilf)) ?_
  refine l_ds 3 (.one (.d (.bool false))) ?_
  refine l_nil ?_
  refine AW.seq ?_
  refine AW.sregL [(0, none)] (by kernel_rfl) ?_
  refine l_ds 4 (.one (.d (.int .i64 level_37))) ?_
  refine l_nil ?_
  refine AW.blk ?_
  refine AW.sregL [(0, none), (1, none)] (by kernel_rfl) ?_
  refine l_ds 6 (.one (.d (.bool (decide (level_37 = 1))))) ?_
  refine l_ds 5 (.one (.d (.bool (decide (level_37 = 1))))) ?_
  refine l_nil ?_
  refine AW.cond' (by kernel_rfl) h (fun h => ?_) (fun h => ?_)
  · refine AW.sregL [(0, none), (1, none)] (by kernel_rfl) ?_
    refine l_ds 2 (.one (.fn 62 [])) ?_
    refine l_ds 3 (.one (.d (.bool true))) ?_
    refine l_nil ?_
    refine AW.ret ?_
    refine q_bret ?_
    refine q_ret ?_
    exact q_end [.one (.fn 62 []), .one (.d (.bool true))] [false, false] [.one (.d (.fn 62 [])), .one (.d (.bool true))] [] [] (by kernel_rfl) ⟨by kernel_rfl, by kernel_rfl⟩ (by kernel_rfl) (by kernel_rfl) (by kernel_rfl) (by kernel_rfl) (Eq.mp (by kernel_rfl) (hK ((.fn 62 []), true) h)) (.inr rfl)
  · refine AW.sregL [(0, none), (1, none)] (by kernel_rfl) ?_
    refine l_ds 8 (.one (.d (.bool (decide (level_37 = 2))))) ?_
    refine l_ds 7 (.one (.d (.bool (decide (level_37 = 2))))) ?_
    refine l_nil ?_
    refine AW.cond' (by kernel_rfl) h (fun h => ?_) (fun h => ?_)
    · refine AW.sregL [(0, none), (1, none)] (by kernel_rfl) ?_
      refine l_ds 2 (.one (.fn 63 [])) ?_
      refine l_ds 3 (.one (.d (.bool true))) ?_
      refine l_nil ?_
      refine AW.ret ?_
      refine q_bret ?_
      refine q_ret ?_
      exact q_end [.one (.fn 63 []), .one (.d (.bool true))] [false, false] [.one (.d (.fn 63 [])), .one (.d (.bool true))] [] [] (by kernel_rfl) ⟨by kernel_rfl, by kernel_rfl⟩ (by kernel_rfl) (by kernel_rfl) (by kernel_rfl) (by kernel_rfl) (Eq.mp (by kernel_rfl) (hK ((.fn 63 []), true) h)) (.inr rfl)
    · refine AW.sregL [(0, none), (1, none)] (by kernel_rfl) ?_
      refine l_ds 10 (.one (.d (.bool (decide (level_37 = 3))))) ?_
      refine l_ds 9 (.one (.d (.bool (decide (level_37 = 3))))) ?_
      refine l_nil ?_
      refine AW.cond' (by kernel_rfl) h (fun h => ?_) (fun h => ?_)
      · refine AW.sregL [(0, none), (1, none)] (by kernel_rfl) ?_
        refine l_ds 2 (.one (.fn 64 [])) ?_
        refine l_ds 3 (.one (.d (.bool true))) ?_
        refine l_nil ?_
        refine AW.ret ?_
        refine q_bret ?_
        refine q_ret ?_
        exact q_end [.one (.fn 64 []), .one (.d (.bool true))] [false, false] [.one (.d (.fn 64 [])), .one (.d (.bool true))] [] [] (by kernel_rfl) ⟨by kernel_rfl, by kernel_rfl⟩ (by kernel_rfl) (by kernel_rfl) (by kernel_rfl) (by kernel_rfl) (Eq.mp (by kernel_rfl) (hK ((.fn 64 []), true) h)) (.inr rfl)
      · refine AW.skip ?_
        refine q_bfall ?_
        refine q_fall ?_
        refine AW.sregL [(0, none), (1, none)] (by kernel_rfl) ?_
        refine l_ds 2 (.one (.d .nilf)) ?_
        refine l_ds 3 (.one (.d (.bool false))) ?_
        refine l_nil ?_
        refine AW.ret ?_
        exact q_end [.one (.d .nilf), .one (.d (.bool false))] [false, false] [.one (.d (.nilf)), .one (.d (.bool false))] [] [] (by kernel_rfl) ⟨by kernel_rfl, by kernel_rfl⟩ (by kernel_rfl) (by kernel_rfl) (by kernel_rfl) (by kernel_rfl) (Eq.mp (by kernel_rfl) (hK (.nilf, false) h)) (.inr rfl)
def r62_0 : List AR := [⟨some 1, .box 58 true 14 (.t 0), [], none⟩,
  ⟨some 2, .alloc 39 true [.str ⟨#[]⟩, .str ⟨#[]⟩, .str ⟨#[]⟩], [], none⟩]
def r62_1 : List AR := [⟨some 3, .fad (.t 1) 6, [], none⟩,
  ⟨some 4, .ld false 1 (.t 3), [0], none⟩,
  ⟨some 5, .bld [.str ⟨#[]⟩, .str ⟨#[]⟩, .str ⟨#[]⟩] [(0, 1, .t 4)], [1], none⟩,
  ⟨none, .st 3 (.t 2) (.t 5), [2, 0, 1, 2], none⟩]
def c62 : ACode := .seq (.reg r62_0 false) (.seq (.reg r62_1 false) (.ret))
theorem body62 : Try.f62.body.map (comp Try.prog 6) = some c62 := by kernel_rfl
theorem res62 : allSome (Try.f62.results.toList.map (compRes Try.prog)) = some [.c 2 true 3] := by kernel_rfl
theorem cok62 {S : FSpec} (h : ∀ args K, S args K → args.all argOk = true ∧ args.length ≤ 6 ∧ AW Try.prog 6 (some ownP) c62 (initS args) (retPost [.c 2 true 3] args K)) : COK Try.prog 62 S := of_body Try.func62 Try.ntmps62 body62 res62 h

/-- sleuth/estimate.grouping$1 -/
def W62 (s_62 : TSpan) (K : TGroup → Prop) : Prop :=
  K (TGroup.mk s_62.service (⟨#[]⟩ : ByteArray) (⟨#[]⟩ : ByteArray))

def S62 : FSpec := fun args K => ∃ (s_62 : TSpan), ∃ (Kr : TGroup → Prop), args = [.agg (List.map RC.d (TSpan.enc s_62))] ∧ W62 s_62 Kr ∧ ∀ r, Kr r → K (.agg (List.map RC.d (TGroup.enc r))) []

theorem en62 : enters Try.prog 62 = true := by unfold enters; rw [Try.func62]; rfl
theorem cl62 (s_62 : TSpan) {Kr : TGroup → Prop} (h : W62 s_62 Kr) : S62 [.agg (List.map RC.d (TSpan.enc s_62))] (fun rv rows => ∃ r, rv = (.agg (List.map RC.d (TGroup.enc r))) ∧ rows = [] ∧ Kr r) := ⟨s_62, Kr, rfl, h, fun r hr => ⟨r, rfl, rfl, hr⟩⟩

theorem ok62 : COK Try.prog 62 S62 := by
  refine cok62 fun args K0 hS => ?_
  obtain ⟨s_62, K, rfl, h, hK⟩ := hS
  refine ⟨by kernel_rfl, by simp, ?_⟩
  unfold W62 at h
  refine AW.sregL [(0, none), (1, none)] (by kernel_rfl) ?_
  refine l_det (some 1) (.one (.ref 1 1 0 0), [(1, 1, .row true 58 14 [[.d (.int .i64 s_62.trace), .d (.int .i64 s_62.id), .d (.int .i64 s_62.parent), .d (.int .i64 s_62.revision), .d (.int .i64 s_62.clock), .d (.int .i64 s_62.kind), .d (.str s_62.service), .d (.str s_62.version), .d (.str s_62.operation), .d (.int .i64 s_62.start), .d (.int .i64 s_62.end_), .d (.bool s_62.error), .d (.sl (List.map TAttr.enc s_62.attrs)), .d (.sl (List.map TRef.enc s_62.links))]])]) (by kernel_rfl) ?_
  refine l_det (some 2) (.one (.ref 2 1 0 0), [(2, 1, .row true 39 3 [[.d (.str (⟨#[]⟩ : ByteArray)), .d (.str (⟨#[]⟩ : ByteArray)), .d (.str (⟨#[]⟩ : ByteArray))]])]) (by kernel_rfl) ?_
  refine l_nil ?_
  refine AW.sregL [(0, none), (1, none), (2, none), (3, none)] (by kernel_rfl) ?_
  refine l_ds 3 (.one (.ref 1 1 0 6)) ?_
  refine l_ds 4 (.one (.d (.str s_62.service))) ?_
  refine l_ds 5 (.agg [.d (.str s_62.service), .d (.str (⟨#[]⟩ : ByteArray)), .d (.str (⟨#[]⟩ : ByteArray))]) ?_
  refine l_det none (.tup [], [(2, 1, .row true 39 3 [[.d (.str s_62.service), .d (.str (⟨#[]⟩ : ByteArray)), .d (.str (⟨#[]⟩ : ByteArray))]])]) (by kernel_rfl) ?_
  refine l_nil ?_
  refine AW.ret ?_
  exact q_end [.agg [.d (.str s_62.service), .d (.str (⟨#[]⟩ : ByteArray)), .d (.str (⟨#[]⟩ : ByteArray))]] [false] [.agg (List.map RC.d [.str s_62.service, .str (⟨#[]⟩ : ByteArray), .str (⟨#[]⟩ : ByteArray)])] [] [] (by kernel_rfl) ⟨by kernel_rfl, by kernel_rfl⟩ (by kernel_rfl) (by kernel_rfl) (by kernel_rfl) (by kernel_rfl) (Eq.mp (by kernel_rfl) (hK (TGroup.mk s_62.service (⟨#[]⟩ : ByteArray) (⟨#[]⟩ : ByteArray)) h)) (.inr rfl)
def r63_0 : List AR := [⟨some 1, .box 58 true 14 (.t 0), [], none⟩,
  ⟨some 2, .alloc 39 true [.str ⟨#[]⟩, .str ⟨#[]⟩, .str ⟨#[]⟩], [], none⟩]
def r63_1 : List AR := [⟨some 3, .fad (.t 1) 6, [], none⟩,
  ⟨some 4, .ld false 1 (.t 3), [0], none⟩,
  ⟨some 5, .fad (.t 1) 7, [], none⟩,
  ⟨some 6, .ld false 1 (.t 5), [2], none⟩,
  ⟨some 7, .bld [.str ⟨#[]⟩, .str ⟨#[]⟩, .str ⟨#[]⟩] [(0, 1, .t 4), (1, 1, .t 6)], [1, 3], none⟩,
  ⟨none, .st 3 (.t 2) (.t 7), [4, 0, 1, 2, 3, 4], none⟩]
def c63 : ACode := .seq (.reg r63_0 false) (.seq (.reg r63_1 false) (.ret))
theorem body63 : Try.f63.body.map (comp Try.prog 8) = some c63 := by kernel_rfl
theorem res63 : allSome (Try.f63.results.toList.map (compRes Try.prog)) = some [.c 2 true 3] := by kernel_rfl
theorem cok63 {S : FSpec} (h : ∀ args K, S args K → args.all argOk = true ∧ args.length ≤ 8 ∧ AW Try.prog 8 (some ownP) c63 (initS args) (retPost [.c 2 true 3] args K)) : COK Try.prog 63 S := of_body Try.func63 Try.ntmps63 body63 res63 h

/-- sleuth/estimate.grouping$2 -/
def W63 (s_63 : TSpan) (K : TGroup → Prop) : Prop :=
  K (TGroup.mk s_63.service s_63.version (⟨#[]⟩ : ByteArray))

def S63 : FSpec := fun args K => ∃ (s_63 : TSpan), ∃ (Kr : TGroup → Prop), args = [.agg (List.map RC.d (TSpan.enc s_63))] ∧ W63 s_63 Kr ∧ ∀ r, Kr r → K (.agg (List.map RC.d (TGroup.enc r))) []

theorem en63 : enters Try.prog 63 = true := by unfold enters; rw [Try.func63]; rfl
theorem cl63 (s_63 : TSpan) {Kr : TGroup → Prop} (h : W63 s_63 Kr) : S63 [.agg (List.map RC.d (TSpan.enc s_63))] (fun rv rows => ∃ r, rv = (.agg (List.map RC.d (TGroup.enc r))) ∧ rows = [] ∧ Kr r) := ⟨s_63, Kr, rfl, h, fun r hr => ⟨r, rfl, rfl, hr⟩⟩

theorem ok63 : COK Try.prog 63 S63 := by
  refine cok63 fun args K0 hS => ?_
  obtain ⟨s_63, K, rfl, h, hK⟩ := hS
  refine ⟨by kernel_rfl, by simp, ?_⟩
  unfold W63 at h
  refine AW.sregL [(0, none), (1, none)] (by kernel_rfl) ?_
  refine l_det (some 1) (.one (.ref 1 1 0 0), [(1, 1, .row true 58 14 [[.d (.int .i64 s_63.trace), .d (.int .i64 s_63.id), .d (.int .i64 s_63.parent), .d (.int .i64 s_63.revision), .d (.int .i64 s_63.clock), .d (.int .i64 s_63.kind), .d (.str s_63.service), .d (.str s_63.version), .d (.str s_63.operation), .d (.int .i64 s_63.start), .d (.int .i64 s_63.end_), .d (.bool s_63.error), .d (.sl (List.map TAttr.enc s_63.attrs)), .d (.sl (List.map TRef.enc s_63.links))]])]) (by kernel_rfl) ?_
  refine l_det (some 2) (.one (.ref 2 1 0 0), [(2, 1, .row true 39 3 [[.d (.str (⟨#[]⟩ : ByteArray)), .d (.str (⟨#[]⟩ : ByteArray)), .d (.str (⟨#[]⟩ : ByteArray))]])]) (by kernel_rfl) ?_
  refine l_nil ?_
  refine AW.sregL [(0, none), (1, none), (2, none), (3, none), (4, none), (5, none)] (by kernel_rfl) ?_
  refine l_ds 3 (.one (.ref 1 1 0 6)) ?_
  refine l_ds 4 (.one (.d (.str s_63.service))) ?_
  refine l_ds 5 (.one (.ref 1 1 0 7)) ?_
  refine l_ds 6 (.one (.d (.str s_63.version))) ?_
  refine l_ds 7 (.agg [.d (.str s_63.service), .d (.str s_63.version), .d (.str (⟨#[]⟩ : ByteArray))]) ?_
  refine l_det none (.tup [], [(2, 1, .row true 39 3 [[.d (.str s_63.service), .d (.str s_63.version), .d (.str (⟨#[]⟩ : ByteArray))]])]) (by kernel_rfl) ?_
  refine l_nil ?_
  refine AW.ret ?_
  exact q_end [.agg [.d (.str s_63.service), .d (.str s_63.version), .d (.str (⟨#[]⟩ : ByteArray))]] [false] [.agg (List.map RC.d [.str s_63.service, .str s_63.version, .str (⟨#[]⟩ : ByteArray)])] [] [] (by kernel_rfl) ⟨by kernel_rfl, by kernel_rfl⟩ (by kernel_rfl) (by kernel_rfl) (by kernel_rfl) (by kernel_rfl) (Eq.mp (by kernel_rfl) (hK (TGroup.mk s_63.service s_63.version (⟨#[]⟩ : ByteArray)) h)) (.inr rfl)
def r64_0 : List AR := [⟨some 1, .box 58 true 14 (.t 0), [], none⟩,
  ⟨some 2, .alloc 39 true [.str ⟨#[]⟩, .str ⟨#[]⟩, .str ⟨#[]⟩], [], none⟩]
def r64_1 : List AR := [⟨some 3, .fad (.t 1) 6, [], none⟩,
  ⟨some 4, .ld false 1 (.t 3), [0], none⟩,
  ⟨some 5, .fad (.t 1) 8, [], none⟩,
  ⟨some 6, .ld false 1 (.t 5), [2], none⟩,
  ⟨some 7, .bld [.str ⟨#[]⟩, .str ⟨#[]⟩, .str ⟨#[]⟩] [(0, 1, .t 4), (2, 1, .t 6)], [1, 3], none⟩,
  ⟨none, .st 3 (.t 2) (.t 7), [4, 0, 1, 2, 3, 4], none⟩]
def c64 : ACode := .seq (.reg r64_0 false) (.seq (.reg r64_1 false) (.ret))
theorem body64 : Try.f64.body.map (comp Try.prog 8) = some c64 := by kernel_rfl
theorem res64 : allSome (Try.f64.results.toList.map (compRes Try.prog)) = some [.c 2 true 3] := by kernel_rfl
theorem cok64 {S : FSpec} (h : ∀ args K, S args K → args.all argOk = true ∧ args.length ≤ 8 ∧ AW Try.prog 8 (some ownP) c64 (initS args) (retPost [.c 2 true 3] args K)) : COK Try.prog 64 S := of_body Try.func64 Try.ntmps64 body64 res64 h

/-- sleuth/estimate.grouping$3 -/
def W64 (s_64 : TSpan) (K : TGroup → Prop) : Prop :=
  K (TGroup.mk s_64.service (⟨#[]⟩ : ByteArray) s_64.operation)

def S64 : FSpec := fun args K => ∃ (s_64 : TSpan), ∃ (Kr : TGroup → Prop), args = [.agg (List.map RC.d (TSpan.enc s_64))] ∧ W64 s_64 Kr ∧ ∀ r, Kr r → K (.agg (List.map RC.d (TGroup.enc r))) []

theorem en64 : enters Try.prog 64 = true := by unfold enters; rw [Try.func64]; rfl
theorem cl64 (s_64 : TSpan) {Kr : TGroup → Prop} (h : W64 s_64 Kr) : S64 [.agg (List.map RC.d (TSpan.enc s_64))] (fun rv rows => ∃ r, rv = (.agg (List.map RC.d (TGroup.enc r))) ∧ rows = [] ∧ Kr r) := ⟨s_64, Kr, rfl, h, fun r hr => ⟨r, rfl, rfl, hr⟩⟩

theorem ok64 : COK Try.prog 64 S64 := by
  refine cok64 fun args K0 hS => ?_
  obtain ⟨s_64, K, rfl, h, hK⟩ := hS
  refine ⟨by kernel_rfl, by simp, ?_⟩
  unfold W64 at h
  refine AW.sregL [(0, none), (1, none)] (by kernel_rfl) ?_
  refine l_det (some 1) (.one (.ref 1 1 0 0), [(1, 1, .row true 58 14 [[.d (.int .i64 s_64.trace), .d (.int .i64 s_64.id), .d (.int .i64 s_64.parent), .d (.int .i64 s_64.revision), .d (.int .i64 s_64.clock), .d (.int .i64 s_64.kind), .d (.str s_64.service), .d (.str s_64.version), .d (.str s_64.operation), .d (.int .i64 s_64.start), .d (.int .i64 s_64.end_), .d (.bool s_64.error), .d (.sl (List.map TAttr.enc s_64.attrs)), .d (.sl (List.map TRef.enc s_64.links))]])]) (by kernel_rfl) ?_
  refine l_det (some 2) (.one (.ref 2 1 0 0), [(2, 1, .row true 39 3 [[.d (.str (⟨#[]⟩ : ByteArray)), .d (.str (⟨#[]⟩ : ByteArray)), .d (.str (⟨#[]⟩ : ByteArray))]])]) (by kernel_rfl) ?_
  refine l_nil ?_
  refine AW.sregL [(0, none), (1, none), (2, none), (3, none), (4, none), (5, none)] (by kernel_rfl) ?_
  refine l_ds 3 (.one (.ref 1 1 0 6)) ?_
  refine l_ds 4 (.one (.d (.str s_64.service))) ?_
  refine l_ds 5 (.one (.ref 1 1 0 8)) ?_
  refine l_ds 6 (.one (.d (.str s_64.operation))) ?_
  refine l_ds 7 (.agg [.d (.str s_64.service), .d (.str (⟨#[]⟩ : ByteArray)), .d (.str s_64.operation)]) ?_
  refine l_det none (.tup [], [(2, 1, .row true 39 3 [[.d (.str s_64.service), .d (.str (⟨#[]⟩ : ByteArray)), .d (.str s_64.operation)]])]) (by kernel_rfl) ?_
  refine l_nil ?_
  refine AW.ret ?_
  exact q_end [.agg [.d (.str s_64.service), .d (.str (⟨#[]⟩ : ByteArray)), .d (.str s_64.operation)]] [false] [.agg (List.map RC.d [.str s_64.service, .str (⟨#[]⟩ : ByteArray), .str s_64.operation])] [] [] (by kernel_rfl) ⟨by kernel_rfl, by kernel_rfl⟩ (by kernel_rfl) (by kernel_rfl) (by kernel_rfl) (by kernel_rfl) (Eq.mp (by kernel_rfl) (hK (TGroup.mk s_64.service (⟨#[]⟩ : ByteArray) s_64.operation) h)) (.inr rfl)
def r38_0 : List AR := [⟨some 1, .box 58 true 14 (.t 0), [], none⟩,
  ⟨some 2, .mov (.c (.int .i64 0)), [], none⟩]
def r38_1 : List AR := [⟨some 3, .fad (.t 1) 10, [], none⟩,
  ⟨some 4, .ld false 1 (.t 3), [0], none⟩,
  ⟨some 5, .fad (.t 1) 9, [], none⟩,
  ⟨some 6, .ld false 1 (.t 5), [2], none⟩,
  ⟨some 7, .bin .sub (.t 4) (.t 6), [1, 3], none⟩,
  ⟨some 2, .mov (.t 7), [4, 0, 1, 2, 3, 4], none⟩]
def c38 : ACode := .seq (.reg r38_0 false) (.seq (.reg r38_1 false) (.ret))
theorem body38 : Try.f38.body.map (comp Try.prog 8) = some c38 := by kernel_rfl
theorem res38 : allSome (Try.f38.results.toList.map (compRes Try.prog)) = some [.s 2] := by kernel_rfl
theorem cok38 {S : FSpec} (h : ∀ args K, S args K → args.all argOk = true ∧ args.length ≤ 8 ∧ AW Try.prog 8 (some ownP) c38 (initS args) (retPost [.s 2] args K)) : COK Try.prog 38 S := of_body Try.func38 Try.ntmps38 body38 res38 h

/-- sleuth/span.Duration -/
def W38 (s_38 : TSpan) (K : Int → Prop) : Prop :=
  K (w64 (s_38.end_ - s_38.start))

def S38 : FSpec := fun args K => ∃ (s_38 : TSpan), ∃ (Kr : Int → Prop), args = [.agg (List.map RC.d (TSpan.enc s_38))] ∧ W38 s_38 Kr ∧ ∀ r, Kr r → K (.one (.d (.int .i64 r))) []

theorem en38 : enters Try.prog 38 = true := by unfold enters; rw [Try.func38]; rfl
theorem cl38 (s_38 : TSpan) {Kr : Int → Prop} (h : W38 s_38 Kr) : S38 [.agg (List.map RC.d (TSpan.enc s_38))] (fun rv rows => ∃ r, rv = (.one (.d (.int .i64 r))) ∧ rows = [] ∧ Kr r) := ⟨s_38, Kr, rfl, h, fun r hr => ⟨r, rfl, rfl, hr⟩⟩

theorem ok38 : COK Try.prog 38 S38 := by
  refine cok38 fun args K0 hS => ?_
  obtain ⟨s_38, K, rfl, h, hK⟩ := hS
  refine ⟨by kernel_rfl, by simp, ?_⟩
  unfold W38 at h
  refine AW.sregL [(0, none), (1, none)] (by kernel_rfl) ?_
  refine l_det (some 1) (.one (.ref 1 1 0 0), [(1, 1, .row true 58 14 [[.d (.int .i64 s_38.trace), .d (.int .i64 s_38.id), .d (.int .i64 s_38.parent), .d (.int .i64 s_38.revision), .d (.int .i64 s_38.clock), .d (.int .i64 s_38.kind), .d (.str s_38.service), .d (.str s_38.version), .d (.str s_38.operation), .d (.int .i64 s_38.start), .d (.int .i64 s_38.end_), .d (.bool s_38.error), .d (.sl (List.map TAttr.enc s_38.attrs)), .d (.sl (List.map TRef.enc s_38.links))]])]) (by kernel_rfl) ?_
  refine l_ds 2 (.one (.d (.int .i64 0))) ?_
  refine l_nil ?_
  refine AW.sregL [(0, none), (1, none), (2, none), (3, none), (4, none), (5, none)] (by kernel_rfl) ?_
  refine l_ds 3 (.one (.ref 1 1 0 10)) ?_
  refine l_ds 4 (.one (.d (.int .i64 s_38.end_))) ?_
  refine l_ds 5 (.one (.ref 1 1 0 9)) ?_
  refine l_ds 6 (.one (.d (.int .i64 s_38.start))) ?_
  refine l_ds 7 (.one (.d (.int .i64 (w64 (s_38.end_ - s_38.start))))) ?_
  refine l_ds 2 (.one (.d (.int .i64 (w64 (s_38.end_ - s_38.start))))) ?_
  refine l_nil ?_
  refine AW.ret ?_
  exact q_end [.one (.d (.int .i64 (w64 (s_38.end_ - s_38.start))))] [false] [.one (.d (.int .i64 (w64 (s_38.end_ - s_38.start))))] [] [] (by kernel_rfl) ⟨by kernel_rfl, by kernel_rfl⟩ (by kernel_rfl) (by kernel_rfl) (by kernel_rfl) (by kernel_rfl) (Eq.mp (by kernel_rfl) (hK (w64 (s_38.end_ - s_38.start)) h)) (.inr rfl)
def r39_0 : List AR := [⟨some 2, .box 37 true 4 (.t 0), [], none⟩,
  ⟨some 3, .box 37 true 4 (.t 1), [], none⟩,
  ⟨some 4, .alloc 37 true [.int .i64 0, .int .i64 0, .int .i64 0, .int .i64 0], [], none⟩]
def r39_1 : List AR := [⟨some 5, .fad (.t 2) 0, [], none⟩,
  ⟨some 6, .ld false 1 (.t 5), [0], none⟩,
  ⟨some 7, .fad (.t 3) 0, [], none⟩,
  ⟨some 8, .ld false 1 (.t 7), [2], none⟩,
  ⟨some 9, .bin .add (.t 6) (.t 8), [1, 3], none⟩,
  ⟨some 10, .fad (.t 2) 1, [], none⟩,
  ⟨some 11, .ld false 1 (.t 10), [5], none⟩,
  ⟨some 12, .fad (.t 3) 1, [], none⟩,
  ⟨some 13, .ld false 1 (.t 12), [7], none⟩,
  ⟨some 14, .bin .add (.t 11) (.t 13), [6, 8], none⟩,
  ⟨some 15, .fad (.t 2) 2, [], none⟩,
  ⟨some 16, .ld false 1 (.t 15), [10], none⟩,
  ⟨some 17, .fad (.t 3) 2, [], none⟩,
  ⟨some 18, .ld false 1 (.t 17), [12], none⟩,
  ⟨some 19, .bin .add (.t 16) (.t 18), [11, 13], none⟩,
  ⟨some 20, .fad (.t 2) 3, [], none⟩,
  ⟨some 21, .ld false 1 (.t 20), [15], none⟩,
  ⟨some 22, .fad (.t 3) 3, [], none⟩,
  ⟨some 23, .ld false 1 (.t 22), [17], none⟩,
  ⟨some 24, .bin .add (.t 21) (.t 23), [16, 18], none⟩,
  ⟨some 25, .bld [.int .i64 0, .int .i64 0, .int .i64 0, .int .i64 0] [(0, 1, .t 9), (1, 1, .t 14), (2, 1, .t 19), (3, 1, .t 24)], [4, 9, 14, 19], none⟩,
  ⟨none, .st 4 (.t 4) (.t 25), [20, 0, 1, 2, 3, 4, 5, 6, 7, 8, 9, 10, 11, 12, 13, 14, 15, 16, 17, 18, 19, 20], none⟩]
def c39 : ACode := .seq (.reg r39_0 false) (.seq (.reg r39_1 false) (.ret))
theorem body39 : Try.f39.body.map (comp Try.prog 26) = some c39 := by kernel_rfl
theorem res39 : allSome (Try.f39.results.toList.map (compRes Try.prog)) = some [.c 4 true 4] := by kernel_rfl
theorem cok39 {S : FSpec} (h : ∀ args K, S args K → args.all argOk = true ∧ args.length ≤ 26 ∧ AW Try.prog 26 (some ownP) c39 (initS args) (retPost [.c 4 true 4] args K)) : COK Try.prog 39 S := of_body Try.func39 Try.ntmps39 body39 res39 h

/-- (sleuth/estimate.Total).plus -/
def W39 (t_39 : TTotal) (o_39 : TTotal) (K : TTotal → Prop) : Prop :=
  K (TTotal.mk (w64 (t_39.spans + o_39.spans)) (w64 (t_39.errors + o_39.errors)) (w64 (t_39.duration + o_39.duration)) (w64 (t_39.traces + o_39.traces)))

def S39 : FSpec := fun args K => ∃ (t_39 : TTotal), ∃ (o_39 : TTotal), ∃ (Kr : TTotal → Prop), args = [.agg (List.map RC.d (TTotal.enc t_39)), .agg (List.map RC.d (TTotal.enc o_39))] ∧ W39 t_39 o_39 Kr ∧ ∀ r, Kr r → K (.agg (List.map RC.d (TTotal.enc r))) []

theorem en39 : enters Try.prog 39 = true := by unfold enters; rw [Try.func39]; rfl
theorem cl39 (t_39 : TTotal) (o_39 : TTotal) {Kr : TTotal → Prop} (h : W39 t_39 o_39 Kr) : S39 [.agg (List.map RC.d (TTotal.enc t_39)), .agg (List.map RC.d (TTotal.enc o_39))] (fun rv rows => ∃ r, rv = (.agg (List.map RC.d (TTotal.enc r))) ∧ rows = [] ∧ Kr r) := ⟨t_39, o_39, Kr, rfl, h, fun r hr => ⟨r, rfl, rfl, hr⟩⟩

theorem ok39 : COK Try.prog 39 S39 := by
  refine cok39 fun args K0 hS => ?_
  obtain ⟨t_39, o_39, K, rfl, h, hK⟩ := hS
  refine ⟨by kernel_rfl, by simp, ?_⟩
  unfold W39 at h
  refine AW.sregL [(0, none), (1, none), (2, none)] (by kernel_rfl) ?_
  refine l_det (some 2) (.one (.ref 2 1 0 0), [(2, 1, .row true 37 4 [[.d (.int .i64 t_39.spans), .d (.int .i64 t_39.errors), .d (.int .i64 t_39.duration), .d (.int .i64 t_39.traces)]])]) (by kernel_rfl) ?_
  refine l_det (some 3) (.one (.ref 3 1 0 0), [(3, 1, .row true 37 4 [[.d (.int .i64 o_39.spans), .d (.int .i64 o_39.errors), .d (.int .i64 o_39.duration), .d (.int .i64 o_39.traces)]])]) (by kernel_rfl) ?_
  refine l_det (some 4) (.one (.ref 4 1 0 0), [(4, 1, .row true 37 4 [[.d (.int .i64 0), .d (.int .i64 0), .d (.int .i64 0), .d (.int .i64 0)]])]) (by kernel_rfl) ?_
  refine l_nil ?_
  refine AW.sregL [(0, none), (1, none), (2, none), (3, none), (4, none), (5, none), (6, none), (7, none), (8, none), (9, none), (10, none), (11, none), (12, none), (13, none), (14, none), (15, none), (16, none), (17, none), (18, none), (19, none), (20, none), (21, none)] (by kernel_rfl) ?_
  refine l_ds 5 (.one (.ref 2 1 0 0)) ?_
  refine l_ds 6 (.one (.d (.int .i64 t_39.spans))) ?_
  refine l_ds 7 (.one (.ref 3 1 0 0)) ?_
  refine l_ds 8 (.one (.d (.int .i64 o_39.spans))) ?_
  refine l_ds 9 (.one (.d (.int .i64 (w64 (t_39.spans + o_39.spans))))) ?_
  refine l_ds 10 (.one (.ref 2 1 0 1)) ?_
  refine l_ds 11 (.one (.d (.int .i64 t_39.errors))) ?_
  refine l_ds 12 (.one (.ref 3 1 0 1)) ?_
  refine l_ds 13 (.one (.d (.int .i64 o_39.errors))) ?_
  refine l_ds 14 (.one (.d (.int .i64 (w64 (t_39.errors + o_39.errors))))) ?_
  refine l_ds 15 (.one (.ref 2 1 0 2)) ?_
  refine l_ds 16 (.one (.d (.int .i64 t_39.duration))) ?_
  refine l_ds 17 (.one (.ref 3 1 0 2)) ?_
  refine l_ds 18 (.one (.d (.int .i64 o_39.duration))) ?_
  refine l_ds 19 (.one (.d (.int .i64 (w64 (t_39.duration + o_39.duration))))) ?_
  refine l_ds 20 (.one (.ref 2 1 0 3)) ?_
  refine l_ds 21 (.one (.d (.int .i64 t_39.traces))) ?_
  refine l_ds 22 (.one (.ref 3 1 0 3)) ?_
  refine l_ds 23 (.one (.d (.int .i64 o_39.traces))) ?_
  refine l_ds 24 (.one (.d (.int .i64 (w64 (t_39.traces + o_39.traces))))) ?_
  refine l_ds 25 (.agg [.d (.int .i64 (w64 (t_39.spans + o_39.spans))), .d (.int .i64 (w64 (t_39.errors + o_39.errors))), .d (.int .i64 (w64 (t_39.duration + o_39.duration))), .d (.int .i64 (w64 (t_39.traces + o_39.traces)))]) ?_
  refine l_det none (.tup [], [(4, 1, .row true 37 4 [[.d (.int .i64 (w64 (t_39.spans + o_39.spans))), .d (.int .i64 (w64 (t_39.errors + o_39.errors))), .d (.int .i64 (w64 (t_39.duration + o_39.duration))), .d (.int .i64 (w64 (t_39.traces + o_39.traces)))]])]) (by kernel_rfl) ?_
  refine l_nil ?_
  refine AW.ret ?_
  exact q_end [.agg [.d (.int .i64 (w64 (t_39.spans + o_39.spans))), .d (.int .i64 (w64 (t_39.errors + o_39.errors))), .d (.int .i64 (w64 (t_39.duration + o_39.duration))), .d (.int .i64 (w64 (t_39.traces + o_39.traces)))]] [false] [.agg (List.map RC.d [.int .i64 (w64 (t_39.spans + o_39.spans)), .int .i64 (w64 (t_39.errors + o_39.errors)), .int .i64 (w64 (t_39.duration + o_39.duration)), .int .i64 (w64 (t_39.traces + o_39.traces))])] [] [] (by kernel_rfl) ⟨by kernel_rfl, by kernel_rfl⟩ (by kernel_rfl) (by kernel_rfl) (by kernel_rfl) (by kernel_rfl) (Eq.mp (by kernel_rfl) (hK (TTotal.mk (w64 (t_39.spans + o_39.spans)) (w64 (t_39.errors + o_39.errors)) (w64 (t_39.duration + o_39.duration)) (w64 (t_39.traces + o_39.traces))) h)) (.inr rfl)
def r87_0 : List AR := [⟨some 2, .mov (.c (.int .i64 0)), [], none⟩]
def r87_1 : List AR := [⟨some 3, .mov (.t 0), [], none⟩,
  ⟨some 4, .bin .geq (.t 3) (.c (.int .u64 4294967296)), [0], none⟩]
def r87_2 : List AR := [⟨some 5, .mov (.t 0), [], none⟩,
  ⟨some 6, .bin .shr (.t 5) (.c (.int .u64 32)), [0], none⟩,
  ⟨some 0, .mov (.t 6), [1, 0, 1], none⟩]
def r87_3 : List AR := [⟨some 2, .mov (.c (.int .i64 32)), [], none⟩]
def r87_4 : List AR := [⟨some 7, .mov (.t 0), [], none⟩,
  ⟨some 8, .bin .geq (.t 7) (.c (.int .u64 65536)), [0], none⟩]
def r87_5 : List AR := [⟨some 9, .mov (.t 0), [], none⟩,
  ⟨some 10, .bin .shr (.t 9) (.c (.int .u64 16)), [0], none⟩,
  ⟨some 0, .mov (.t 10), [1, 0, 1], none⟩]
def r87_6 : List AR := [⟨some 11, .mov (.t 2), [], none⟩,
  ⟨some 12, .bin .add (.t 11) (.c (.int .i64 16)), [0], none⟩,
  ⟨some 2, .mov (.t 12), [1, 0, 1], none⟩]
def r87_7 : List AR := [⟨some 13, .mov (.t 0), [], none⟩,
  ⟨some 14, .bin .geq (.t 13) (.c (.int .u64 256)), [0], none⟩]
def r87_8 : List AR := [⟨some 15, .mov (.t 0), [], none⟩,
  ⟨some 16, .bin .shr (.t 15) (.c (.int .u64 8)), [0], none⟩,
  ⟨some 0, .mov (.t 16), [1, 0, 1], none⟩]
def r87_9 : List AR := [⟨some 17, .mov (.t 2), [], none⟩,
  ⟨some 18, .bin .add (.t 17) (.c (.int .i64 8)), [0], none⟩,
  ⟨some 2, .mov (.t 18), [1, 0, 1], none⟩]
def r87_10 : List AR := [⟨some 19, .mov (.t 2), [], none⟩,
  ⟨some 20, .mov (.t 0), [], none⟩,
  ⟨some 21, .cvi .u8 (.t 20), [1], none⟩,
  ⟨some 22, .ixs (.c (.str ⟨#[0, 1, 2, 2, 3, 3, 3, 3, 4, 4, 4, 4, 4, 4, 4, 4, 5, 5, 5, 5, 5, 5, 5, 5, 5, 5, 5, 5, 5, 5, 5, 5, 6, 6, 6, 6, 6, 6, 6, 6, 6, 6, 6, 6, 6, 6, 6, 6, 6, 6, 6, 6, 6, 6, 6, 6, 6, 6, 6, 6, 6, 6, 6, 6, 7, 7, 7, 7, 7, 7, 7, 7, 7, 7, 7, 7, 7, 7, 7, 7, 7, 7, 7, 7, 7, 7, 7, 7, 7, 7, 7, 7, 7, 7, 7, 7, 7, 7, 7, 7, 7, 7, 7, 7, 7, 7, 7, 7, 7, 7, 7, 7, 7, 7, 7, 7, 7, 7, 7, 7, 7, 7, 7, 7, 7, 7, 7, 7, 8, 8, 8, 8, 8, 8, 8, 8, 8, 8, 8, 8, 8, 8, 8, 8, 8, 8, 8, 8, 8, 8, 8, 8, 8, 8, 8, 8, 8, 8, 8, 8, 8, 8, 8, 8, 8, 8, 8, 8, 8, 8, 8, 8, 8, 8, 8, 8, 8, 8, 8, 8, 8, 8, 8, 8, 8, 8, 8, 8, 8, 8, 8, 8, 8, 8, 8, 8, 8, 8, 8, 8, 8, 8, 8, 8, 8, 8, 8, 8, 8, 8, 8, 8, 8, 8, 8, 8, 8, 8, 8, 8, 8, 8, 8, 8, 8, 8, 8, 8, 8, 8, 8, 8, 8, 8, 8, 8, 8, 8, 8, 8, 8, 8, 8, 8, 8, 8, 8, 8, 8, 8, 8, 8, 8, 8, 8, 8]⟩)) (.t 21), [2], none⟩,
  ⟨some 23, .cvi .i64 (.t 22), [3], none⟩,
  ⟨some 24, .bin .add (.t 19) (.t 23), [0, 4], none⟩,
  ⟨some 2, .mov (.t 24), [5, 0, 1, 2, 3, 4, 5], none⟩]
def c87 : ACode := .seq (.reg r87_0 false) (.seq (.seq (.reg r87_1 false) (.cond (.t 4) (.seq (.reg r87_2 false) (.reg r87_3 false)) (.skip))) (.seq (.seq (.reg r87_4 false) (.cond (.t 8) (.seq (.reg r87_5 false) (.reg r87_6 false)) (.skip))) (.seq (.seq (.reg r87_7 false) (.cond (.t 14) (.seq (.reg r87_8 false) (.reg r87_9 false)) (.skip))) (.seq (.reg r87_10 false) (.ret)))))
theorem body87 : Try.f87.body.map (comp Try.prog 25) = some c87 := by kernel_rfl
theorem res87 : allSome (Try.f87.results.toList.map (compRes Try.prog)) = some [.s 2] := by kernel_rfl
theorem cok87 {S : FSpec} (h : ∀ args K, S args K → args.all argOk = true ∧ args.length ≤ 25 ∧ AW Try.prog 25 (some ownP) c87 (initS args) (retPost [.s 2] args K)) : COK Try.prog 87 S := of_body Try.func87 Try.ntmps87 body87 res87 h

def J87_3 (K : Int → Prop) (v918 : Int) (v919 : Int) : Prop :=
  Chr (⟨#[0, 1, 2, 2, 3, 3, 3, 3, 4, 4, 4, 4, 4, 4, 4, 4, 5, 5, 5, 5, 5, 5, 5, 5, 5, 5, 5, 5, 5, 5, 5, 5, 6, 6, 6, 6, 6, 6, 6, 6, 6, 6, 6, 6, 6, 6, 6, 6, 6, 6, 6, 6, 6, 6, 6, 6, 6, 6, 6, 6, 6, 6, 6, 6, 7, 7, 7, 7, 7, 7, 7, 7, 7, 7, 7, 7, 7, 7, 7, 7, 7, 7, 7, 7, 7, 7, 7, 7, 7, 7, 7, 7, 7, 7, 7, 7, 7, 7, 7, 7, 7, 7, 7, 7, 7, 7, 7, 7, 7, 7, 7, 7, 7, 7, 7, 7, 7, 7, 7, 7, 7, 7, 7, 7, 7, 7, 7, 7, 8, 8, 8, 8, 8, 8, 8, 8, 8, 8, 8, 8, 8, 8, 8, 8, 8, 8, 8, 8, 8, 8, 8, 8, 8, 8, 8, 8, 8, 8, 8, 8, 8, 8, 8, 8, 8, 8, 8, 8, 8, 8, 8, 8, 8, 8, 8, 8, 8, 8, 8, 8, 8, 8, 8, 8, 8, 8, 8, 8, 8, 8, 8, 8, 8, 8, 8, 8, 8, 8, 8, 8, 8, 8, 8, 8, 8, 8, 8, 8, 8, 8, 8, 8, 8, 8, 8, 8, 8, 8, 8, 8, 8, 8, 8, 8, 8, 8, 8, 8, 8, 8, 8, 8, 8, 8, 8, 8, 8, 8, 8, 8, 8, 8, 8, 8, 8, 8, 8, 8, 8, 8, 8, 8, 8, 8, 8, 8]⟩ : ByteArray) (IntKind.wrap .u8 v918) fun b921 => K (w64 (v919 + (w64 (b921.toNat : Int))))

def J87_2 (K : Int → Prop) (v916 : Int) (v917 : Int) : Prop :=
  Cond (decide (v916 ≥ 256)) (J87_3 K (Int.fdiv v916 (2 ^ 8)) (w64 (v917 + 8))) (J87_3 K v916 v917)

def J87_1 (K : Int → Prop) (v914 : Int) (v915 : Int) : Prop :=
  Cond (decide (v914 ≥ 65536)) (J87_2 K (Int.fdiv v914 (2 ^ 16)) (w64 (v915 + 16))) (J87_2 K v914 v915)

/-- math/bits.Len64 -/
def W87 (x_0_87 : Int) (K : Int → Prop) : Prop :=
  Cond (decide (x_0_87 ≥ 4294967296)) (J87_1 K (Int.fdiv x_0_87 (2 ^ 32)) 32) (J87_1 K x_0_87 0)

def S87 : FSpec := fun args K => ∃ (x_0_87 : Int), ∃ (Kr : Int → Prop), args = [.one (.d (.int .u64 x_0_87))] ∧ W87 x_0_87 Kr ∧ ∀ r, Kr r → K (.one (.d (.int .i64 r))) []

theorem en87 : enters Try.prog 87 = true := by unfold enters; rw [Try.func87]; rfl
theorem cl87 (x_0_87 : Int) {Kr : Int → Prop} (h : W87 x_0_87 Kr) : S87 [.one (.d (.int .u64 x_0_87))] (fun rv rows => ∃ r, rv = (.one (.d (.int .i64 r))) ∧ rows = [] ∧ Kr r) := ⟨x_0_87, Kr, rfl, h, fun r hr => ⟨r, rfl, rfl, hr⟩⟩

theorem ok87 : COK Try.prog 87 S87 := by
  refine cok87 fun args K0 hS => ?_
  obtain ⟨x_0_87, K, rfl, h, hK⟩ := hS
  refine ⟨by kernel_rfl, by simp, ?_⟩
  unfold W87 at h
  refine AW.sregL [(0, none)] (by kernel_rfl) ?_
  refine l_ds 2 (.one (.d (.int .i64 0))) ?_
  refine l_nil ?_
  refine AW.seqL (S := (Int × Int)) (fun s => (fun (v914 : Int) (v915 : Int) => [(0, .one (.d (.int .u64 v914))), (2, .one (.d (.int .i64 v915)))]) s.1 s.2) (fun s => (fun (v914 : Int) (v915 : Int) => []) s.1 s.2) (fun s : (Int × Int) => J87_1 K s.1 s.2) ?_ ?_
  · refine AW.sregL [(0, none), (1, none)] (by kernel_rfl) ?_
    refine l_ds 3 (.one (.d (.int .u64 x_0_87))) ?_
    refine l_ds 4 (.one (.d (.bool (decide (x_0_87 ≥ 4294967296))))) ?_
    refine l_nil ?_
    refine AW.cond' (by kernel_rfl) h (fun h => ?_) (fun h => ?_)
    · refine AW.sregL [(0, none), (1, none), (2, none)] (by kernel_rfl) ?_
      refine l_ds 5 (.one (.d (.int .u64 x_0_87))) ?_
      refine l_ds 6 (.one (.d (.int .u64 (Int.fdiv x_0_87 (2 ^ 32))))) ?_
      refine l_ds 0 (.one (.d (.int .u64 (Int.fdiv x_0_87 (2 ^ 32))))) ?_
      refine l_nil ?_
      refine AW.regL [(0, none)] (by kernel_rfl) ?_
      refine l_ds 2 (.one (.d (.int .i64 32))) ?_
      refine l_nil ?_
      refine q_fall ?_
      exact Lab.m ((Int.fdiv x_0_87 (2 ^ 32)), 32) [] h
    · refine AW.skip ?_
      refine q_fall ?_
      exact Lab.m (x_0_87, 0) [] h
  · rintro ⟨v914, v915⟩ h
    have h : J87_1 K v914 v915 := h
    unfold J87_1 at h
    refine AW.seqL (S := (Int × Int)) (fun s => (fun (v916 : Int) (v917 : Int) => [(0, .one (.d (.int .u64 v916))), (2, .one (.d (.int .i64 v917)))]) s.1 s.2) (fun s => (fun (v916 : Int) (v917 : Int) => []) s.1 s.2) (fun s : (Int × Int) => J87_2 K s.1 s.2) ?_ ?_
    · refine AW.sregL [(0, none), (1, none)] (by kernel_rfl) ?_
      refine l_ds 7 (.one (.d (.int .u64 v914))) ?_
      refine l_ds 8 (.one (.d (.bool (decide (v914 ≥ 65536))))) ?_
      refine l_nil ?_
      refine AW.cond' (by kernel_rfl) h (fun h => ?_) (fun h => ?_)
      · refine AW.sregL [(0, none), (1, none), (2, none)] (by kernel_rfl) ?_
        refine l_ds 9 (.one (.d (.int .u64 v914))) ?_
        refine l_ds 10 (.one (.d (.int .u64 (Int.fdiv v914 (2 ^ 16))))) ?_
        refine l_ds 0 (.one (.d (.int .u64 (Int.fdiv v914 (2 ^ 16))))) ?_
        refine l_nil ?_
        refine AW.regL [(0, none), (1, none), (2, none)] (by kernel_rfl) ?_
        refine l_ds 11 (.one (.d (.int .i64 v915))) ?_
        refine l_ds 12 (.one (.d (.int .i64 (w64 (v915 + 16))))) ?_
        refine l_ds 2 (.one (.d (.int .i64 (w64 (v915 + 16))))) ?_
        refine l_nil ?_
        refine q_fall ?_
        exact Lab.m ((Int.fdiv v914 (2 ^ 16)), (w64 (v915 + 16))) [] h
      · refine AW.skip ?_
        refine q_fall ?_
        exact Lab.m (v914, v915) [] h
    · rintro ⟨v916, v917⟩ h
      have h : J87_2 K v916 v917 := h
      unfold J87_2 at h
      refine AW.seqL (S := (Int × Int)) (fun s => (fun (v918 : Int) (v919 : Int) => [(0, .one (.d (.int .u64 v918))), (2, .one (.d (.int .i64 v919)))]) s.1 s.2) (fun s => (fun (v918 : Int) (v919 : Int) => []) s.1 s.2) (fun s : (Int × Int) => J87_3 K s.1 s.2) ?_ ?_
      · refine AW.sregL [(0, none), (1, none)] (by kernel_rfl) ?_
        refine l_ds 13 (.one (.d (.int .u64 v916))) ?_
        refine l_ds 14 (.one (.d (.bool (decide (v916 ≥ 256))))) ?_
        refine l_nil ?_
        refine AW.cond' (by kernel_rfl) h (fun h => ?_) (fun h => ?_)
        · refine AW.sregL [(0, none), (1, none), (2, none)] (by kernel_rfl) ?_
          refine l_ds 15 (.one (.d (.int .u64 v916))) ?_
          refine l_ds 16 (.one (.d (.int .u64 (Int.fdiv v916 (2 ^ 8))))) ?_
          refine l_ds 0 (.one (.d (.int .u64 (Int.fdiv v916 (2 ^ 8))))) ?_
          refine l_nil ?_
          refine AW.regL [(0, none), (1, none), (2, none)] (by kernel_rfl) ?_
          refine l_ds 17 (.one (.d (.int .i64 v917))) ?_
          refine l_ds 18 (.one (.d (.int .i64 (w64 (v917 + 8))))) ?_
          refine l_ds 2 (.one (.d (.int .i64 (w64 (v917 + 8))))) ?_
          refine l_nil ?_
          refine q_fall ?_
          exact Lab.m ((Int.fdiv v916 (2 ^ 8)), (w64 (v917 + 8))) [] h
        · refine AW.skip ?_
          refine q_fall ?_
          exact Lab.m (v916, v917) [] h
      · rintro ⟨v918, v919⟩ h
        have h : J87_3 K v918 v919 := h
        unfold J87_3 at h
        refine AW.sregL [(0, none), (1, none), (2, none), (3, none), (4, none), (5, none), (6, none)] (by kernel_rfl) ?_
        refine l_ds 19 (.one (.d (.int .i64 v919))) ?_
        refine l_ds 20 (.one (.d (.int .u64 v918))) ?_
        refine l_ds 21 (.one (.d (.int .u8 (IntKind.wrap .u8 v918)))) ?_
        obtain ⟨h3, b921, h4, h⟩ := h
        refine l_spec (some 22) (.ixs (.c (.str ⟨#[0, 1, 2, 2, 3, 3, 3, 3, 4, 4, 4, 4, 4, 4, 4, 4, 5, 5, 5, 5, 5, 5, 5, 5, 5, 5, 5, 5, 5, 5, 5, 5, 6, 6, 6, 6, 6, 6, 6, 6, 6, 6, 6, 6, 6, 6, 6, 6, 6, 6, 6, 6, 6, 6, 6, 6, 6, 6, 6, 6, 6, 6, 6, 6, 7, 7, 7, 7, 7, 7, 7, 7, 7, 7, 7, 7, 7, 7, 7, 7, 7, 7, 7, 7, 7, 7, 7, 7, 7, 7, 7, 7, 7, 7, 7, 7, 7, 7, 7, 7, 7, 7, 7, 7, 7, 7, 7, 7, 7, 7, 7, 7, 7, 7, 7, 7, 7, 7, 7, 7, 7, 7, 7, 7, 7, 7, 7, 7, 8, 8, 8, 8, 8, 8, 8, 8, 8, 8, 8, 8, 8, 8, 8, 8, 8, 8, 8, 8, 8, 8, 8, 8, 8, 8, 8, 8, 8, 8, 8, 8, 8, 8, 8, 8, 8, 8, 8, 8, 8, 8, 8, 8, 8, 8, 8, 8, 8, 8, 8, 8, 8, 8, 8, 8, 8, 8, 8, 8, 8, 8, 8, 8, 8, 8, 8, 8, 8, 8, 8, 8, 8, 8, 8, 8, 8, 8, 8, 8, 8, 8, 8, 8, 8, 8, 8, 8, 8, 8, 8, 8, 8, 8, 8, 8, 8, 8, 8, 8, 8, 8, 8, 8, 8, 8, 8, 8, 8, 8, 8, 8, 8, 8, 8, 8, 8, 8, 8, 8, 8, 8, 8, 8, 8, 8, 8, 8]⟩)) (.t 21)) (.one (.d (.int .u8 (b921.toNat : Int))), []) (by kernel_rfl) (detA_none (d_ixs (k := .u8) (⟨#[0, 1, 2, 2, 3, 3, 3, 3, 4, 4, 4, 4, 4, 4, 4, 4, 5, 5, 5, 5, 5, 5, 5, 5, 5, 5, 5, 5, 5, 5, 5, 5, 6, 6, 6, 6, 6, 6, 6, 6, 6, 6, 6, 6, 6, 6, 6, 6, 6, 6, 6, 6, 6, 6, 6, 6, 6, 6, 6, 6, 6, 6, 6, 6, 7, 7, 7, 7, 7, 7, 7, 7, 7, 7, 7, 7, 7, 7, 7, 7, 7, 7, 7, 7, 7, 7, 7, 7, 7, 7, 7, 7, 7, 7, 7, 7, 7, 7, 7, 7, 7, 7, 7, 7, 7, 7, 7, 7, 7, 7, 7, 7, 7, 7, 7, 7, 7, 7, 7, 7, 7, 7, 7, 7, 7, 7, 7, 7, 8, 8, 8, 8, 8, 8, 8, 8, 8, 8, 8, 8, 8, 8, 8, 8, 8, 8, 8, 8, 8, 8, 8, 8, 8, 8, 8, 8, 8, 8, 8, 8, 8, 8, 8, 8, 8, 8, 8, 8, 8, 8, 8, 8, 8, 8, 8, 8, 8, 8, 8, 8, 8, 8, 8, 8, 8, 8, 8, 8, 8, 8, 8, 8, 8, 8, 8, 8, 8, 8, 8, 8, 8, 8, 8, 8, 8, 8, 8, 8, 8, 8, 8, 8, 8, 8, 8, 8, 8, 8, 8, 8, 8, 8, 8, 8, 8, 8, 8, 8, 8, 8, 8, 8, 8, 8, 8, 8, 8, 8, 8, 8, 8, 8, 8, 8, 8, 8, 8, 8, 8, 8, 8, 8, 8, 8, 8, 8]⟩ : ByteArray) b921 (by kernel_rfl) (by kernel_rfl) h3 h4)) ?_
        refine l_ds 23 (.one (.d (.int .i64 (w64 (b921.toNat : Int))))) ?_
        refine l_ds 24 (.one (.d (.int .i64 (w64 (v919 + (w64 (b921.toNat : Int))))))) ?_
        refine l_ds 2 (.one (.d (.int .i64 (w64 (v919 + (w64 (b921.toNat : Int))))))) ?_
        refine l_nil ?_
        refine AW.ret ?_
        exact q_end [.one (.d (.int .i64 (w64 (v919 + (w64 (b921.toNat : Int))))))] [false] [.one (.d (.int .i64 (w64 (v919 + (w64 (b921.toNat : Int))))))] [] [] (by kernel_rfl) ⟨by kernel_rfl, by kernel_rfl⟩ (by kernel_rfl) (by kernel_rfl) (by kernel_rfl) (by kernel_rfl) (Eq.mp (by kernel_rfl) (hK (w64 (v919 + (w64 (b921.toNat : Int)))) h)) (.inr rfl)
def r74_0 : List AR := [⟨some 2, .mov (.c (.int .i64 0)), [], none⟩]
def r74_1 : List AR := [⟨some 3, .mov (.t 0), [], none⟩,
  ⟨some 4, .cvi .u32 (.t 3), [0], none⟩,
  ⟨some 5, .call 86 [.t 4], [1], none⟩,
  ⟨some 2, .mov (.t 5), [2, 2, 0, 1, 2], none⟩]
def r74_2 : List AR := [⟨some 6, .mov (.t 0), [], none⟩,
  ⟨some 7, .call 87 [.t 6], [0], none⟩,
  ⟨some 2, .mov (.t 7), [1, 1, 0, 1], none⟩]
def c74 : ACode := .seq (.reg r74_0 false) (.seq (.cond (.c (.bool false)) (.seq (.reg r74_1 false) (.ret)) (.skip)) (.seq (.reg r74_2 false) (.ret)))
theorem body74 : Try.f74.body.map (comp Try.prog 8) = some c74 := by kernel_rfl
theorem res74 : allSome (Try.f74.results.toList.map (compRes Try.prog)) = some [.s 2] := by kernel_rfl
theorem cok74 {S : FSpec} (h : ∀ args K, S args K → args.all argOk = true ∧ args.length ≤ 8 ∧ AW Try.prog 8 (some ownP) c74 (initS args) (retPost [.s 2] args K)) : COK Try.prog 74 S := of_body Try.func74 Try.ntmps74 body74 res74 h

/-- math/bits.Len -/
def W74 (x_0_74 : Int) (K : Int → Prop) : Prop :=
  W87 x_0_74 fun r923 => K r923

def S74 : FSpec := fun args K => ∃ (x_0_74 : Int), ∃ (Kr : Int → Prop), args = [.one (.d (.int .u64 x_0_74))] ∧ W74 x_0_74 Kr ∧ ∀ r, Kr r → K (.one (.d (.int .i64 r))) []

theorem en74 : enters Try.prog 74 = true := by unfold enters; rw [Try.func74]; rfl
theorem cl74 (x_0_74 : Int) {Kr : Int → Prop} (h : W74 x_0_74 Kr) : S74 [.one (.d (.int .u64 x_0_74))] (fun rv rows => ∃ r, rv = (.one (.d (.int .i64 r))) ∧ rows = [] ∧ Kr r) := ⟨x_0_74, Kr, rfl, h, fun r hr => ⟨r, rfl, rfl, hr⟩⟩

theorem ok74 : COK Try.prog 74 S74 := by
  refine cok74 fun args K0 hS => ?_
  obtain ⟨x_0_74, K, rfl, h, hK⟩ := hS
  refine ⟨by kernel_rfl, by simp, ?_⟩
  unfold W74 at h
  refine AW.sregL [(0, none)] (by kernel_rfl) ?_
  refine l_ds 2 (.one (.d (.int .i64 0))) ?_
  refine l_nil ?_
  refine AW.seq ?_
  refine AW.condF (by kernel_rfl) ?_
  refine AW.skip ?_
  refine q_fall ?_
  refine AW.sregL [(0, none), (1, none), (2, none)] (by kernel_rfl) ?_
  refine l_ds 6 (.one (.d (.int .u64 x_0_74))) ?_
  refine l_call ok87 en87 (some 7) [.one (.d (.int .u64 x_0_74))] [false] [.one (.d (.int .u64 x_0_74))] [] (by kernel_rfl) ⟨by kernel_rfl, by kernel_rfl⟩ (by kernel_rfl) (by kernel_rfl) (by kernel_rfl) (cl87 x_0_74 h) ?_
  rintro hR _ _ ⟨r923, rfl, rfl, h⟩
  refine ⟨false, (.one (.d (.int .i64 r923)), []), (fun hz => (by cases hz)), (ret_R hR (by kernel_rfl)), ?_⟩
  refine l_ds 2 (.one (.d (.int .i64 r923))) ?_
  refine l_nil ?_
  refine AW.ret ?_
  exact q_end [.one (.d (.int .i64 r923))] [false] [.one (.d (.int .i64 r923))] [] [] (by kernel_rfl) ⟨by kernel_rfl, by kernel_rfl⟩ (by kernel_rfl) (by kernel_rfl) (by kernel_rfl) (by kernel_rfl) (Eq.mp (by kernel_rfl) (hK r923 h)) (.inr rfl)
def r97_0 : List AR := [⟨some 2, .mov (.c (.bool false)), [], none⟩]
def r97_1 : List AR := [⟨some 3, .mov (.t 0), [], none⟩,
  ⟨some 4, .mov (.t 0), [], none⟩,
  ⟨some 5, .bin .neq (.t 3) (.t 4), [0, 1], none⟩,
  ⟨some 2, .mov (.t 5), [2, 0, 1, 2], none⟩]
def c97 : ACode := .seq (.reg r97_0 false) (.seq (.reg r97_1 false) (.ret))
theorem body97 : Try.f97.body.map (comp Try.prog 6) = some c97 := by kernel_rfl
theorem res97 : allSome (Try.f97.results.toList.map (compRes Try.prog)) = some [.s 2] := by kernel_rfl
theorem cok97 {S : FSpec} (h : ∀ args K, S args K → args.all argOk = true ∧ args.length ≤ 6 ∧ AW Try.prog 6 (some ownP) c97 (initS args) (retPost [.s 2] args K)) : COK Try.prog 97 S := of_body Try.func97 Try.ntmps97 body97 res97 h

/-- cmp.isNaN[string] -/
def W97 (x_0_97 : ByteArray) (K : Bool → Prop) : Prop :=
  K (decide (¬ x_0_97 = x_0_97))

def S97 : FSpec := fun args K => ∃ (x_0_97 : ByteArray), ∃ (Kr : Bool → Prop), args = [.one (.d (.str x_0_97))] ∧ W97 x_0_97 Kr ∧ ∀ r, Kr r → K (.one (.d (.bool r))) []

theorem en97 : enters Try.prog 97 = true := by unfold enters; rw [Try.func97]; rfl
theorem cl97 (x_0_97 : ByteArray) {Kr : Bool → Prop} (h : W97 x_0_97 Kr) : S97 [.one (.d (.str x_0_97))] (fun rv rows => ∃ r, rv = (.one (.d (.bool r))) ∧ rows = [] ∧ Kr r) := ⟨x_0_97, Kr, rfl, h, fun r hr => ⟨r, rfl, rfl, hr⟩⟩

theorem ok97 : COK Try.prog 97 S97 := by
  refine cok97 fun args K0 hS => ?_
  obtain ⟨x_0_97, K, rfl, h, hK⟩ := hS
  refine ⟨by kernel_rfl, by simp, ?_⟩
  unfold W97 at h
  refine AW.sregL [(0, none)] (by kernel_rfl) ?_
  refine l_ds 2 (.one (.d (.bool false))) ?_
  refine l_nil ?_
  refine AW.sregL [(0, none), (1, none), (2, none), (3, none)] (by kernel_rfl) ?_
  refine l_ds 3 (.one (.d (.str x_0_97))) ?_
  refine l_ds 4 (.one (.d (.str x_0_97))) ?_
  refine l_ds 5 (.one (.d (.bool (decide (¬ x_0_97 = x_0_97))))) ?_
  refine l_ds 2 (.one (.d (.bool (decide (¬ x_0_97 = x_0_97))))) ?_
  refine l_nil ?_
  refine AW.ret ?_
  exact q_end [.one (.d (.bool (decide (¬ x_0_97 = x_0_97))))] [false] [.one (.d (.bool (decide (¬ x_0_97 = x_0_97))))] [] [] (by kernel_rfl) ⟨by kernel_rfl, by kernel_rfl⟩ (by kernel_rfl) (by kernel_rfl) (by kernel_rfl) (by kernel_rfl) (Eq.mp (by kernel_rfl) (hK (decide (¬ x_0_97 = x_0_97)) h)) (.inr rfl)
def r82_0 : List AR := [⟨some 4, .mov (.c (.int .i64 0)), [], none⟩]
def r82_1 : List AR := [⟨some 7, .mov (.t 0), [], none⟩,
  ⟨some 8, .call 97 [.t 7], [0], none⟩,
  ⟨some 5, .mov (.t 8), [1, 1, 0, 1], none⟩]
def r82_2 : List AR := [⟨some 9, .mov (.t 1), [], none⟩,
  ⟨some 10, .call 97 [.t 9], [0], none⟩,
  ⟨some 6, .mov (.t 10), [1, 1, 0, 1], none⟩]
def r82_3 : List AR := [⟨some 11, .mov (.t 5), [], none⟩]
def r82_4 : List AR := [⟨some 12, .mov (.t 6), [], none⟩]
def r82_5 : List AR := [⟨some 4, .mov (.c (.int .i64 0)), [], none⟩]
def r82_6 : List AR := [⟨some 4, .mov (.c (.int .i64 (-1))), [], none⟩]
def r82_7 : List AR := [⟨some 13, .mov (.t 6), [], none⟩]
def r82_8 : List AR := [⟨some 4, .mov (.c (.int .i64 1)), [], none⟩]
def r82_9 : List AR := [⟨some 14, .mov (.t 0), [], none⟩,
  ⟨some 15, .mov (.t 1), [], none⟩,
  ⟨some 16, .bin .lss (.t 14) (.t 15), [0, 1], none⟩]
def r82_10 : List AR := [⟨some 4, .mov (.c (.int .i64 (-1))), [], none⟩]
def r82_11 : List AR := [⟨some 17, .mov (.t 0), [], none⟩,
  ⟨some 18, .mov (.t 1), [], none⟩,
  ⟨some 19, .bin .gtr (.t 17) (.t 18), [0, 1], none⟩]
def r82_12 : List AR := [⟨some 4, .mov (.c (.int .i64 1)), [], none⟩]
def r82_13 : List AR := [⟨some 4, .mov (.c (.int .i64 0)), [], none⟩]
def c82 : ACode := .seq (.reg r82_0 false) (.seq (.reg r82_1 false) (.seq (.reg r82_2 false) (.seq (.seq (.reg r82_3 false) (.cond (.t 11) (.seq (.seq (.reg r82_4 false) (.cond (.t 12) (.seq (.reg r82_5 false) (.ret)) (.skip))) (.seq (.reg r82_6 false) (.ret))) (.skip))) (.seq (.seq (.reg r82_7 false) (.cond (.t 13) (.seq (.reg r82_8 false) (.ret)) (.skip))) (.seq (.seq (.reg r82_9 false) (.cond (.t 16) (.seq (.reg r82_10 false) (.ret)) (.skip))) (.seq (.seq (.reg r82_11 false) (.cond (.t 19) (.seq (.reg r82_12 false) (.ret)) (.skip))) (.seq (.reg r82_13 false) (.ret))))))))
theorem body82 : Try.f82.body.map (comp Try.prog 20) = some c82 := by kernel_rfl
theorem res82 : allSome (Try.f82.results.toList.map (compRes Try.prog)) = some [.s 4] := by kernel_rfl
theorem cok82 {S : FSpec} (h : ∀ args K, S args K → args.all argOk = true ∧ args.length ≤ 20 ∧ AW Try.prog 20 (some ownP) c82 (initS args) (retPost [.s 4] args K)) : COK Try.prog 82 S := of_body Try.func82 Try.ntmps82 body82 res82 h

/-- cmp.Compare[string] -/
def W82 (x_0_82 : ByteArray) (y_82 : ByteArray) (K : Int → Prop) : Prop :=
  W97 x_0_82 fun r928 => W97 y_82 fun r930 => Cond r928 (Cond r930 (K 0) (K (-1))) (Cond r930 (K 1) (Cond (Op.bytesLess x_0_82.toList y_82.toList) (K (-1)) (Cond (!(Op.bytesLess x_0_82.toList y_82.toList || decide (x_0_82 = y_82))) (K 1) (K 0))))

def S82 : FSpec := fun args K => ∃ (x_0_82 : ByteArray), ∃ (y_82 : ByteArray), ∃ (Kr : Int → Prop), args = [.one (.d (.str x_0_82)), .one (.d (.str y_82))] ∧ W82 x_0_82 y_82 Kr ∧ ∀ r, Kr r → K (.one (.d (.int .i64 r))) []

theorem en82 : enters Try.prog 82 = true := by unfold enters; rw [Try.func82]; rfl
theorem cl82 (x_0_82 : ByteArray) (y_82 : ByteArray) {Kr : Int → Prop} (h : W82 x_0_82 y_82 Kr) : S82 [.one (.d (.str x_0_82)), .one (.d (.str y_82))] (fun rv rows => ∃ r, rv = (.one (.d (.int .i64 r))) ∧ rows = [] ∧ Kr r) := ⟨x_0_82, y_82, Kr, rfl, h, fun r hr => ⟨r, rfl, rfl, hr⟩⟩

theorem ok82 : COK Try.prog 82 S82 := by
  refine cok82 fun args K0 hS => ?_
  obtain ⟨x_0_82, y_82, K, rfl, h, hK⟩ := hS
  refine ⟨by kernel_rfl, by simp, ?_⟩
  unfold W82 at h
  refine AW.sregL [(0, none)] (by kernel_rfl) ?_
  refine l_ds 4 (.one (.d (.int .i64 0))) ?_
  refine l_nil ?_
  refine AW.sregL [(0, none), (1, none), (2, none)] (by kernel_rfl) ?_
  refine l_ds 7 (.one (.d (.str x_0_82))) ?_
  refine l_call ok97 en97 (some 8) [.one (.d (.str x_0_82))] [false] [.one (.d (.str x_0_82))] [] (by kernel_rfl) ⟨by kernel_rfl, by kernel_rfl⟩ (by kernel_rfl) (by kernel_rfl) (by kernel_rfl) (cl97 x_0_82 h) ?_
  rintro hR _ _ ⟨r928, rfl, rfl, h⟩
  refine ⟨false, (.one (.d (.bool r928)), []), (fun hz => (by cases hz)), (ret_R hR (by kernel_rfl)), ?_⟩
  refine l_ds 5 (.one (.d (.bool r928))) ?_
  refine l_nil ?_
  refine AW.sregL [(0, none), (1, none), (2, none)] (by kernel_rfl) ?_
  refine l_ds 9 (.one (.d (.str y_82))) ?_
  refine l_call ok97 en97 (some 10) [.one (.d (.str y_82))] [false] [.one (.d (.str y_82))] [] (by kernel_rfl) ⟨by kernel_rfl, by kernel_rfl⟩ (by kernel_rfl) (by kernel_rfl) (by kernel_rfl) (cl97 y_82 h) ?_
  rintro hR _ _ ⟨r930, rfl, rfl, h⟩
  refine ⟨false, (.one (.d (.bool r930)), []), (fun hz => (by cases hz)), (ret_R hR (by kernel_rfl)), ?_⟩
  refine l_ds 6 (.one (.d (.bool r930))) ?_
  refine l_nil ?_
  refine AW.seq ?_
  refine AW.sregL [(0, none)] (by kernel_rfl) ?_
  refine l_ds 11 (.one (.d (.bool r928))) ?_
  refine l_nil ?_
  refine AW.cond' (by kernel_rfl) h (fun h => ?_) (fun h => ?_)
  · refine AW.seq ?_
    refine AW.sregL [(0, none)] (by kernel_rfl) ?_
    refine l_ds 12 (.one (.d (.bool r930))) ?_
    refine l_nil ?_
    refine AW.cond' (by kernel_rfl) h (fun h => ?_) (fun h => ?_)
    · refine AW.sregL [(0, none)] (by kernel_rfl) ?_
      refine l_ds 4 (.one (.d (.int .i64 0))) ?_
      refine l_nil ?_
      refine AW.ret ?_
      refine q_ret ?_
      refine q_ret ?_
      exact q_end [.one (.d (.int .i64 0))] [false] [.one (.d (.int .i64 0))] [] [] (by kernel_rfl) ⟨by kernel_rfl, by kernel_rfl⟩ (by kernel_rfl) (by kernel_rfl) (by kernel_rfl) (by kernel_rfl) (Eq.mp (by kernel_rfl) (hK 0 h)) (.inr rfl)
    · refine AW.skip ?_
      refine q_fall ?_
      refine AW.sregL [(0, none)] (by kernel_rfl) ?_
      refine l_ds 4 (.one (.d (.int .i64 (-1)))) ?_
      refine l_nil ?_
      refine AW.ret ?_
      refine q_ret ?_
      exact q_end [.one (.d (.int .i64 (-1)))] [false] [.one (.d (.int .i64 (-1)))] [] [] (by kernel_rfl) ⟨by kernel_rfl, by kernel_rfl⟩ (by kernel_rfl) (by kernel_rfl) (by kernel_rfl) (by kernel_rfl) (Eq.mp (by kernel_rfl) (hK (-1) h)) (.inr rfl)
  · refine AW.skip ?_
    refine q_fall ?_
    refine AW.seq ?_
    refine AW.sregL [(0, none)] (by kernel_rfl) ?_
    refine l_ds 13 (.one (.d (.bool r930))) ?_
    refine l_nil ?_
    refine AW.cond' (by kernel_rfl) h (fun h => ?_) (fun h => ?_)
    · refine AW.sregL [(0, none)] (by kernel_rfl) ?_
      refine l_ds 4 (.one (.d (.int .i64 1))) ?_
      refine l_nil ?_
      refine AW.ret ?_
      refine q_ret ?_
      exact q_end [.one (.d (.int .i64 1))] [false] [.one (.d (.int .i64 1))] [] [] (by kernel_rfl) ⟨by kernel_rfl, by kernel_rfl⟩ (by kernel_rfl) (by kernel_rfl) (by kernel_rfl) (by kernel_rfl) (Eq.mp (by kernel_rfl) (hK 1 h)) (.inr rfl)
    · refine AW.skip ?_
      refine q_fall ?_
      refine AW.seq ?_
      refine AW.sregL [(0, none), (1, none), (2, none)] (by kernel_rfl) ?_
      refine l_ds 14 (.one (.d (.str x_0_82))) ?_
      refine l_ds 15 (.one (.d (.str y_82))) ?_
      refine l_ds 16 (.one (.d (.bool (Op.bytesLess x_0_82.toList y_82.toList)))) ?_
      refine l_nil ?_
      refine AW.cond' (by kernel_rfl) h (fun h => ?_) (fun h => ?_)
      · refine AW.sregL [(0, none)] (by kernel_rfl) ?_
        refine l_ds 4 (.one (.d (.int .i64 (-1)))) ?_
        refine l_nil ?_
        refine AW.ret ?_
        refine q_ret ?_
        exact q_end [.one (.d (.int .i64 (-1)))] [false] [.one (.d (.int .i64 (-1)))] [] [] (by kernel_rfl) ⟨by kernel_rfl, by kernel_rfl⟩ (by kernel_rfl) (by kernel_rfl) (by kernel_rfl) (by kernel_rfl) (Eq.mp (by kernel_rfl) (hK (-1) h)) (.inr rfl)
      · refine AW.skip ?_
        refine q_fall ?_
        refine AW.seq ?_
        refine AW.sregL [(0, none), (1, none), (2, none)] (by kernel_rfl) ?_
        refine l_ds 17 (.one (.d (.str x_0_82))) ?_
        refine l_ds 18 (.one (.d (.str y_82))) ?_
        refine l_ds 19 (.one (.d (.bool (!(Op.bytesLess x_0_82.toList y_82.toList || decide (x_0_82 = y_82)))))) ?_
        refine l_nil ?_
        refine AW.cond' (by kernel_rfl) h (fun h => ?_) (fun h => ?_)
        · refine AW.sregL [(0, none)] (by kernel_rfl) ?_
          refine l_ds 4 (.one (.d (.int .i64 1))) ?_
          refine l_nil ?_
          refine AW.ret ?_
          refine q_ret ?_
          exact q_end [.one (.d (.int .i64 1))] [false] [.one (.d (.int .i64 1))] [] [] (by kernel_rfl) ⟨by kernel_rfl, by kernel_rfl⟩ (by kernel_rfl) (by kernel_rfl) (by kernel_rfl) (by kernel_rfl) (Eq.mp (by kernel_rfl) (hK 1 h)) (.inr rfl)
        · refine AW.skip ?_
          refine q_fall ?_
          refine AW.sregL [(0, none)] (by kernel_rfl) ?_
          refine l_ds 4 (.one (.d (.int .i64 0))) ?_
          refine l_nil ?_
          refine AW.ret ?_
          exact q_end [.one (.d (.int .i64 0))] [false] [.one (.d (.int .i64 0))] [] [] (by kernel_rfl) ⟨by kernel_rfl, by kernel_rfl⟩ (by kernel_rfl) (by kernel_rfl) (by kernel_rfl) (by kernel_rfl) (Eq.mp (by kernel_rfl) (hK 0 h)) (.inr rfl)
def r81_0 : List AR := [⟨some 2, .mov (.c (.int .i64 0)), [], none⟩]
def r81_1 : List AR := [⟨some 3, .mov (.c (.int .i64 0)), [], none⟩]
def r81_2 : List AR := [⟨some 6, .mov (.t 0), [], none⟩,
  ⟨some 7, .lens (.t 6), [0], none⟩,
  ⟨some 8, .mov (.c (.int .i64 0)), [], none⟩]
def r81_3 : List AR := [⟨some 9, .bin .lss (.t 8) (.t 7), [], none⟩]
def r81_4 : List AR := [⟨some 10, .iad 1 (.t 6) (.t 8), [], none⟩,
  ⟨some 11, .ld false 1 (.t 10), [0], none⟩,
  ⟨some 5, .mov (.t 11), [1, 0, 1], none⟩]
def r81_5 : List AR := [⟨some 12, .mov (.t 5), [], none⟩,
  ⟨some 13, .mov (.t 3), [], none⟩,
  ⟨some 14, .bin .neq (.t 12) (.t 13), [0, 1], none⟩]
def r81_6 : List AR := [⟨some 15, .mov (.t 5), [], none⟩,
  ⟨some 2, .mov (.t 15), [0, 0], none⟩]
def r81_7 : List AR := [⟨some 16, .bin .add (.t 8) (.c (.int .i64 1)), [], none⟩,
  ⟨some 8, .mov (.t 16), [0], none⟩]
def r81_8 : List AR := [⟨some 17, .mov (.t 3), [], none⟩,
  ⟨some 2, .mov (.t 17), [0, 0], none⟩]
def c81 : ACode := .seq (.reg r81_0 false) (.seq (.reg r81_1 false) (.seq (.seq (.reg r81_2 false) (.blk 0 (.loop (.seq (.reg r81_3 false) (.seq (.cond (.t 9) (.skip) (.exit 0)) (.seq (.blk 1 (.seq (.reg r81_4 false) (.seq (.reg r81_5 false) (.cond (.t 14) (.seq (.reg r81_6 false) (.ret)) (.skip))))) (.reg r81_7 false))))))) (.seq (.reg r81_8 false) (.ret))))
theorem body81 : Try.f81.body.map (comp Try.prog 18) = some c81 := by kernel_rfl
theorem res81 : allSome (Try.f81.results.toList.map (compRes Try.prog)) = some [.s 2] := by kernel_rfl
theorem cok81 {S : FSpec} (h : ∀ args K, S args K → args.all argOk = true ∧ args.length ≤ 18 ∧ AW Try.prog 18 (some ownP) c81 (initS args) (retPost [.s 2] args K)) : COK Try.prog 81 S := of_body Try.func81 Try.ntmps81 body81 res81 h

def L81_1 (vals_81 : List Int) (K : Int → Prop) (v952 : Int) (N957 : Int → Prop) : Prop :=
  Cond (decide (v952 < (vals_81.length : Int))) (Idx vals_81 v952 fun x961 => Cond (decide (¬ x961 = 0)) (K x961) (N957 (w64 (v952 + 1)))) (K 0)

/-- cmp.Or[int] -/
def W81 (vals_81 : List Int) (K : Int → Prop) : Prop :=
  LoopW (fun (s : Int) N957 => L81_1 vals_81 K s N957) 0

def S81 : FSpec := fun args K => ∃ (vals_81 : List Int), ∃ (Kr : Int → Prop), args = [.one (.d (.sl (List.map (eInt .i64) vals_81)))] ∧ W81 vals_81 Kr ∧ ∀ r, Kr r → K (.one (.d (.int .i64 r))) []

theorem en81 : enters Try.prog 81 = true := by unfold enters; rw [Try.func81]; rfl
theorem cl81 (vals_81 : List Int) {Kr : Int → Prop} (h : W81 vals_81 Kr) : S81 [.one (.d (.sl (List.map (eInt .i64) vals_81)))] (fun rv rows => ∃ r, rv = (.one (.d (.int .i64 r))) ∧ rows = [] ∧ Kr r) := ⟨vals_81, Kr, rfl, h, fun r hr => ⟨r, rfl, rfl, hr⟩⟩

theorem ok81 : COK Try.prog 81 S81 := by
  refine cok81 fun args K0 hS => ?_
  obtain ⟨vals_81, K, rfl, h, hK⟩ := hS
  refine ⟨by kernel_rfl, by simp, ?_⟩
  unfold W81 at h
  refine AW.sregL [(0, none)] (by kernel_rfl) ?_
  refine l_ds 2 (.one (.d (.int .i64 0))) ?_
  refine l_nil ?_
  refine AW.sregL [(0, none)] (by kernel_rfl) ?_
  refine l_ds 3 (.one (.d (.int .i64 0))) ?_
  refine l_nil ?_
  refine AW.seq ?_
  refine AW.sregL [(0, none), (1, none), (2, none)] (by kernel_rfl) ?_
  refine l_ds 6 (.one (.d (.sl (List.map (eInt .i64) vals_81)))) ?_
  refine l_spec (some 7) (.lens (.t 6)) (.one (.d (.int .i64 (vals_81.length : Int))), []) (by kernel_rfl) (detA_none (d_lens_sl (enc := (eInt .i64)) vals_81 (by kernel_rfl))) ?_
  refine l_ds 8 (.one (.d (.int .i64 0))) ?_
  refine l_nil ?_
  refine AW.blk ?_
  refine AW.loopL (S := Int) (fun s => (fun (v952 : Int) => [(3, .one (.d (.int .i64 0))), (6, .one (.d (.sl (List.map (eInt .i64) vals_81)))), (7, .one (.d (.int .i64 (vals_81.length : Int)))), (8, .one (.d (.int .i64 v952)))]) s) (fun s => (fun (v952 : Int) => []) s) (fun (s : Int) N957 => L81_1 vals_81 K s N957) (N := fun s => LoopW (fun (s : Int) N957 => L81_1 vals_81 K s N957) s) (Lab.m 0 [] h) (fun _ h => h) ?_
  rintro v952 N957 h
  have h : L81_1 vals_81 K v952 N957 := h
  unfold L81_1 at h
  refine AW.sregL [(0, none)] (by kernel_rfl) ?_
  refine l_ds 9 (.one (.d (.bool (decide (v952 < (vals_81.length : Int)))))) ?_
  refine l_nil ?_
  refine AW.seq ?_
  refine AW.cond' (by kernel_rfl) h (fun h => ?_) (fun h => ?_)
  · refine AW.skip ?_
    refine q_fall ?_
    refine AW.seq ?_
    refine AW.blk ?_
    refine AW.sregL [(0, none), (1, none), (2, none)] (by kernel_rfl) ?_
    obtain ⟨h47, x961, h48, h⟩ := h
    refine l_spec (some 10) (.iad 1 (.t 6) (.t 8)) (.one (.d (.ptr [.int .i64 x961])), []) (by kernel_rfl) (detA_none (d_iad_sl (enc := (eInt .i64)) (k := .i64) vals_81 x961 (by kernel_rfl) (by kernel_rfl) h47 h48 rfl)) ?_
    refine l_ds 11 (.one (.d (.int .i64 x961))) ?_
    refine l_ds 5 (.one (.d (.int .i64 x961))) ?_
    refine l_nil ?_
    refine AW.sregL [(0, none), (1, none), (2, none)] (by kernel_rfl) ?_
    refine l_ds 12 (.one (.d (.int .i64 x961))) ?_
    refine l_ds 13 (.one (.d (.int .i64 0))) ?_
    refine l_ds 14 (.one (.d (.bool (decide (¬ x961 = 0))))) ?_
    refine l_nil ?_
    refine AW.cond' (by kernel_rfl) h (fun h => ?_) (fun h => ?_)
    · refine AW.sregL [(0, none), (1, none)] (by kernel_rfl) ?_
      refine l_ds 15 (.one (.d (.int .i64 x961))) ?_
      refine l_ds 2 (.one (.d (.int .i64 x961))) ?_
      refine l_nil ?_
      refine AW.ret ?_
      refine q_bret ?_
      refine q_ret ?_
      refine q_ret ?_
      refine q_bret ?_
      refine q_ret ?_
      exact q_end [.one (.d (.int .i64 x961))] [false] [.one (.d (.int .i64 x961))] [] [] (by kernel_rfl) ⟨by kernel_rfl, by kernel_rfl⟩ (by kernel_rfl) (by kernel_rfl) (by kernel_rfl) (by kernel_rfl) (Eq.mp (by kernel_rfl) (hK x961 h)) (.inr rfl)
    · refine AW.skip ?_
      refine q_bfall ?_
      refine q_fall ?_
      refine AW.regL [(0, none), (1, none)] (by kernel_rfl) ?_
      refine l_ds 16 (.one (.d (.int .i64 (w64 (v952 + 1))))) ?_
      refine l_ds 8 (.one (.d (.int .i64 (w64 (v952 + 1))))) ?_
      refine l_nil ?_
      refine q_fall ?_
      exact Lab.m (w64 (v952 + 1)) [] h
  · refine AW.exit ?_
    refine q_exit ?_
    refine q_exit ?_
    refine q_bhere ?_
    refine q_fall ?_
    refine AW.sregL [(0, none), (1, none)] (by kernel_rfl) ?_
    refine l_ds 17 (.one (.d (.int .i64 0))) ?_
    refine l_ds 2 (.one (.d (.int .i64 0))) ?_
    refine l_nil ?_
    refine AW.ret ?_
    exact q_end [.one (.d (.int .i64 0))] [false] [.one (.d (.int .i64 0))] [] [] (by kernel_rfl) ⟨by kernel_rfl, by kernel_rfl⟩ (by kernel_rfl) (by kernel_rfl) (by kernel_rfl) (by kernel_rfl) (Eq.mp (by kernel_rfl) (hK 0 h)) (.inr rfl)
def r67_0 : List AR := [⟨some 2, .box 39 true 3 (.t 0), [], none⟩,
  ⟨some 3, .box 39 true 3 (.t 1), [], none⟩,
  ⟨some 4, .mov (.c (.int .i64 0)), [], none⟩]
def r67_1 : List AR := [⟨some 5, .fad (.t 2) 0, [], none⟩,
  ⟨some 6, .ld false 1 (.t 5), [0], none⟩,
  ⟨some 7, .fad (.t 3) 0, [], none⟩,
  ⟨some 8, .ld false 1 (.t 7), [2], none⟩,
  ⟨some 9, .call 82 [.t 6, .t 8], [1, 3], none⟩,
  ⟨some 10, .fad (.t 2) 1, [], none⟩,
  ⟨some 11, .ld false 1 (.t 10), [5], none⟩,
  ⟨some 12, .fad (.t 3) 1, [], none⟩,
  ⟨some 13, .ld false 1 (.t 12), [7], none⟩,
  ⟨some 14, .call 82 [.t 11, .t 13], [6, 8, 4], none⟩,
  ⟨some 15, .fad (.t 2) 2, [], none⟩,
  ⟨some 16, .ld false 1 (.t 15), [10], none⟩,
  ⟨some 17, .fad (.t 3) 2, [], none⟩,
  ⟨some 18, .ld false 1 (.t 17), [12], none⟩,
  ⟨some 19, .call 82 [.t 16, .t 18], [11, 13, 9], none⟩,
  ⟨some 20, .bsl 3 1 3 [.int .i64 0] [(0, .t 9), (1, .t 14), (2, .t 19)], [4, 9, 14], none⟩,
  ⟨some 21, .call 81 [.t 20], [15, 14], none⟩,
  ⟨some 4, .mov (.t 21), [16, 16, 0, 1, 2, 3, 4, 5, 6, 7, 8, 9, 10, 11, 12, 13, 14, 15, 16], none⟩]
def c67 : ACode := .seq (.reg r67_0 false) (.seq (.reg r67_1 true) (.ret))
theorem body67 : Try.f67.body.map (comp Try.prog 22) = some c67 := by kernel_rfl
theorem res67 : allSome (Try.f67.results.toList.map (compRes Try.prog)) = some [.s 4] := by kernel_rfl
theorem cok67 {S : FSpec} (h : ∀ args K, S args K → args.all argOk = true ∧ args.length ≤ 22 ∧ AW Try.prog 22 (some ownP) c67 (initS args) (retPost [.s 4] args K)) : COK Try.prog 67 S := of_body Try.func67 Try.ntmps67 body67 res67 h

/-- sleuth/estimate.compare -/
def W67 (a_67 : TGroup) (b_67 : TGroup) (K : Int → Prop) : Prop :=
  W82 a_67.service b_67.service fun r963 => W82 a_67.version b_67.version fun r964 => W82 a_67.operation b_67.operation fun r965 => W81 [r963, r964, r965] fun r966 => K r966

def S67 : FSpec := fun args K => ∃ (a_67 : TGroup), ∃ (b_67 : TGroup), ∃ (Kr : Int → Prop), args = [.agg (List.map RC.d (TGroup.enc a_67)), .agg (List.map RC.d (TGroup.enc b_67))] ∧ W67 a_67 b_67 Kr ∧ ∀ r, Kr r → K (.one (.d (.int .i64 r))) []

theorem en67 : enters Try.prog 67 = true := by unfold enters; rw [Try.func67]; rfl
theorem cl67 (a_67 : TGroup) (b_67 : TGroup) {Kr : Int → Prop} (h : W67 a_67 b_67 Kr) : S67 [.agg (List.map RC.d (TGroup.enc a_67)), .agg (List.map RC.d (TGroup.enc b_67))] (fun rv rows => ∃ r, rv = (.one (.d (.int .i64 r))) ∧ rows = [] ∧ Kr r) := ⟨a_67, b_67, Kr, rfl, h, fun r hr => ⟨r, rfl, rfl, hr⟩⟩

theorem ok67 : COK Try.prog 67 S67 := by
  refine cok67 fun args K0 hS => ?_
  obtain ⟨a_67, b_67, K, rfl, h, hK⟩ := hS
  refine ⟨by kernel_rfl, by simp, ?_⟩
  unfold W67 at h
  refine AW.sregL [(0, none), (1, none), (2, none)] (by kernel_rfl) ?_
  refine l_det (some 2) (.one (.ref 2 1 0 0), [(2, 1, .row true 39 3 [[.d (.str a_67.service), .d (.str a_67.version), .d (.str a_67.operation)]])]) (by kernel_rfl) ?_
  refine l_det (some 3) (.one (.ref 3 1 0 0), [(3, 1, .row true 39 3 [[.d (.str b_67.service), .d (.str b_67.version), .d (.str b_67.operation)]])]) (by kernel_rfl) ?_
  refine l_ds 4 (.one (.d (.int .i64 0))) ?_
  refine l_nil ?_
  refine AW.sregdL follows_mixed [[], [0], [], [2], [0, 1, 2, 3], [], [5], [], [7], [0, 1, 2, 3, 4, 5, 6, 7, 8], [], [10], [], [12], [0, 1, 2, 3, 4, 5, 6, 7, 8, 9, 10, 11, 12, 13], [0, 1, 2, 3, 4, 5, 6, 7, 8, 9, 10, 11, 12, 13, 14], [0, 1, 2, 3, 4, 5, 6, 7, 8, 9, 10, 11, 12, 13, 14, 15], [0, 1, 2, 3, 4, 5, 6, 7, 8, 9, 10, 11, 12, 13, 14, 15, 16]] [(0, none), (1, none), (2, none), (3, none), (5, none), (6, some [11, 1000002]), (7, none), (8, some [13, 1000003]), (10, none), (11, some [16, 1000002]), (12, none), (13, some [18, 1000003]), (4, some [9]), (9, some [14]), (14, none), (15, none), (16, none), (17, none)] (by kernel_rfl) ?_
  refine l_ds 5 (.one (.ref 2 1 0 0)) ?_
  refine l_ds 6 (.one (.d (.str a_67.service))) ?_
  refine l_ds 7 (.one (.ref 3 1 0 0)) ?_
  refine l_ds 8 (.one (.d (.str b_67.service))) ?_
  refine l_ds 10 (.one (.ref 2 1 0 1)) ?_
  refine l_ds 11 (.one (.d (.str a_67.version))) ?_
  refine l_ds 12 (.one (.ref 3 1 0 1)) ?_
  refine l_ds 13 (.one (.d (.str b_67.version))) ?_
  refine l_ds 15 (.one (.ref 2 1 0 2)) ?_
  refine l_ds 16 (.one (.d (.str a_67.operation))) ?_
  refine l_ds 17 (.one (.ref 3 1 0 2)) ?_
  refine l_ds 18 (.one (.d (.str b_67.operation))) ?_
  refine l_call ok82 en82 (some 9) [.one (.d (.str a_67.service)), .one (.d (.str b_67.service))] [false, false] [.one (.d (.str a_67.service)), .one (.d (.str b_67.service))] [] (by kernel_rfl) ⟨by kernel_rfl, by kernel_rfl⟩ (by kernel_rfl) (by kernel_rfl) (by kernel_rfl) (cl82 a_67.service b_67.service h) ?_
  rintro hR _ _ ⟨r963, rfl, rfl, h⟩
  refine ⟨false, (.one (.d (.int .i64 r963)), []), (fun hz => (by cases hz)), (ret_R hR (by kernel_rfl)), ?_⟩
  refine l_call ok82 en82 (some 14) [.one (.d (.str a_67.version)), .one (.d (.str b_67.version))] [false, false] [.one (.d (.str a_67.version)), .one (.d (.str b_67.version))] [] (by kernel_rfl) ⟨by kernel_rfl, by kernel_rfl⟩ (by kernel_rfl) (by kernel_rfl) (by kernel_rfl) (cl82 a_67.version b_67.version h) ?_
  rintro hR _ _ ⟨r964, rfl, rfl, h⟩
  refine ⟨false, (.one (.d (.int .i64 r964)), []), (fun hz => (by cases hz)), (ret_R hR (by kernel_rfl)), ?_⟩
  refine l_call ok82 en82 (some 19) [.one (.d (.str a_67.operation)), .one (.d (.str b_67.operation))] [false, false] [.one (.d (.str a_67.operation)), .one (.d (.str b_67.operation))] [] (by kernel_rfl) ⟨by kernel_rfl, by kernel_rfl⟩ (by kernel_rfl) (by kernel_rfl) (by kernel_rfl) (cl82 a_67.operation b_67.operation h) ?_
  rintro hR _ _ ⟨r965, rfl, rfl, h⟩
  refine ⟨false, (.one (.d (.int .i64 r965)), []), (fun hz => (by cases hz)), (ret_R hR (by kernel_rfl)), ?_⟩
  refine l_det (some 20) (.one (.view 20 1 0 3), [(20, 1, .row true 3 1 [[.d (.int .i64 r963)], [.d (.int .i64 r964)], [.d (.int .i64 r965)]])]) (by kernel_rfl) ?_
  refine l_call ok81 en81 (some 21) [.one (.view 20 1 0 3)] [false] [.one (.d (.sl [[.int .i64 r963], [.int .i64 r964], [.int .i64 r965]]))] [20] (by kernel_rfl) ⟨by kernel_rfl, by kernel_rfl⟩ (by kernel_rfl) (by kernel_rfl) (by kernel_rfl) (cl81 [r963, r964, r965] h) ?_
  rintro hR _ _ ⟨r966, rfl, rfl, h⟩
  refine ⟨true, (.one (.d (.int .i64 r966)), []), (fun _ => (by kernel_rfl)), (by kernel_rfl), ?_⟩
  refine l_ds 4 (.one (.d (.int .i64 r966))) ?_
  refine l_nil ?_
  refine AW.ret ?_
  exact q_end [.one (.d (.int .i64 r966))] [false] [.one (.d (.int .i64 r966))] [] [] (by kernel_rfl) ⟨by kernel_rfl, by kernel_rfl⟩ (by kernel_rfl) (by kernel_rfl) (by kernel_rfl) (by kernel_rfl) (Eq.mp (by kernel_rfl) (hK r966 h)) (.inr rfl)
def r66_0 : List AR := [⟨some 2, .box 41 true 7 (.t 0), [], none⟩,
  ⟨some 3, .box 41 true 7 (.t 1), [], none⟩,
  ⟨some 4, .mov (.c (.int .i64 0)), [], none⟩]
def r66_1 : List AR := [⟨some 5, .fad (.t 2) 0, [], none⟩,
  ⟨some 6, .ld true 3 (.t 5), [0], none⟩,
  ⟨some 7, .fad (.t 3) 0, [], none⟩,
  ⟨some 8, .ld true 3 (.t 7), [2], none⟩,
  ⟨some 9, .call 67 [.t 6, .t 8], [1, 3], none⟩,
  ⟨some 4, .mov (.t 9), [4, 4, 0, 1, 2, 3, 4], none⟩]
def c66 : ACode := .seq (.reg r66_0 false) (.seq (.reg r66_1 false) (.ret))
theorem body66 : Try.f66.body.map (comp Try.prog 10) = some c66 := by kernel_rfl
theorem res66 : allSome (Try.f66.results.toList.map (compRes Try.prog)) = some [.s 4] := by kernel_rfl
theorem cok66 {S : FSpec} (h : ∀ args K, S args K → args.all argOk = true ∧ args.length ≤ 10 ∧ AW Try.prog 10 (some ownP) c66 (initS args) (retPost [.s 4] args K)) : COK Try.prog 66 S := of_body Try.func66 Try.ntmps66 body66 res66 h

/-- sleuth/estimate.lines$1 -/
def W66 (a_66 : TLine) (b_66 : TLine) (K : Int → Prop) : Prop :=
  W67 a_66.group b_66.group fun r968 => K r968

def S66 : FSpec := fun args K => ∃ (a_66 : TLine), ∃ (b_66 : TLine), ∃ (Kr : Int → Prop), args = [.agg (List.map RC.d (TLine.enc a_66)), .agg (List.map RC.d (TLine.enc b_66))] ∧ W66 a_66 b_66 Kr ∧ ∀ r, Kr r → K (.one (.d (.int .i64 r))) []

theorem en66 : enters Try.prog 66 = true := by unfold enters; rw [Try.func66]; rfl
theorem cl66 (a_66 : TLine) (b_66 : TLine) {Kr : Int → Prop} (h : W66 a_66 b_66 Kr) : S66 [.agg (List.map RC.d (TLine.enc a_66)), .agg (List.map RC.d (TLine.enc b_66))] (fun rv rows => ∃ r, rv = (.one (.d (.int .i64 r))) ∧ rows = [] ∧ Kr r) := ⟨a_66, b_66, Kr, rfl, h, fun r hr => ⟨r, rfl, rfl, hr⟩⟩

theorem ok66 : COK Try.prog 66 S66 := by
  refine cok66 fun args K0 hS => ?_
  obtain ⟨a_66, b_66, K, rfl, h, hK⟩ := hS
  refine ⟨by kernel_rfl, by simp, ?_⟩
  unfold W66 at h
  refine AW.sregL [(0, none), (1, none), (2, none)] (by kernel_rfl) ?_
  refine l_det (some 2) (.one (.ref 2 1 0 0), [(2, 1, .row true 41 7 [[.d (.str a_66.group.service), .d (.str a_66.group.version), .d (.str a_66.group.operation), .d (.int .i64 a_66.total.spans), .d (.int .i64 a_66.total.errors), .d (.int .i64 a_66.total.duration), .d (.int .i64 a_66.total.traces)]])]) (by kernel_rfl) ?_
  refine l_det (some 3) (.one (.ref 3 1 0 0), [(3, 1, .row true 41 7 [[.d (.str b_66.group.service), .d (.str b_66.group.version), .d (.str b_66.group.operation), .d (.int .i64 b_66.total.spans), .d (.int .i64 b_66.total.errors), .d (.int .i64 b_66.total.duration), .d (.int .i64 b_66.total.traces)]])]) (by kernel_rfl) ?_
  refine l_ds 4 (.one (.d (.int .i64 0))) ?_
  refine l_nil ?_
  refine AW.sregL [(0, none), (1, none), (2, none), (3, none), (4, none), (5, none)] (by kernel_rfl) ?_
  refine l_ds 5 (.one (.ref 2 1 0 0)) ?_
  refine l_ds 6 (.agg [.d (.str a_66.group.service), .d (.str a_66.group.version), .d (.str a_66.group.operation)]) ?_
  refine l_ds 7 (.one (.ref 3 1 0 0)) ?_
  refine l_ds 8 (.agg [.d (.str b_66.group.service), .d (.str b_66.group.version), .d (.str b_66.group.operation)]) ?_
  refine l_call ok67 en67 (some 9) [.agg [.d (.str a_66.group.service), .d (.str a_66.group.version), .d (.str a_66.group.operation)], .agg [.d (.str b_66.group.service), .d (.str b_66.group.version), .d (.str b_66.group.operation)]] [false, false] [.agg (List.map RC.d [.str a_66.group.service, .str a_66.group.version, .str a_66.group.operation]), .agg (List.map RC.d [.str b_66.group.service, .str b_66.group.version, .str b_66.group.operation])] [] (by kernel_rfl) ⟨by kernel_rfl, by kernel_rfl⟩ (by kernel_rfl) (by kernel_rfl) (by kernel_rfl) (cl67 a_66.group b_66.group h) ?_
  rintro hR _ _ ⟨r968, rfl, rfl, h⟩
  refine ⟨false, (.one (.d (.int .i64 r968)), []), (fun hz => (by cases hz)), (ret_R hR (by kernel_rfl)), ?_⟩
  refine l_ds 4 (.one (.d (.int .i64 r968))) ?_
  refine l_nil ?_
  refine AW.ret ?_
  exact q_end [.one (.d (.int .i64 r968))] [false] [.one (.d (.int .i64 r968))] [] [] (by kernel_rfl) ⟨by kernel_rfl, by kernel_rfl⟩ (by kernel_rfl) (by kernel_rfl) (by kernel_rfl) (by kernel_rfl) (Eq.mp (by kernel_rfl) (hK r968 h)) (.inr rfl)
def r88_0 : List AR := [⟨some 10, .mov (.t 1), [], none⟩,
  ⟨some 11, .bin .add (.t 10) (.c (.int .i64 1)), [0], none⟩,
  ⟨some 8, .mov (.t 11), [1, 0, 1], none⟩]
def r88_1 : List AR := [⟨some 12, .mov (.t 8), [], none⟩,
  ⟨some 13, .mov (.t 2), [], none⟩,
  ⟨some 14, .bin .lss (.t 12) (.t 13), [0, 1], none⟩]
def r88_2 : List AR := [⟨some 17, .mov (.t 8), [], none⟩,
  ⟨some 9, .mov (.t 17), [0, 0], none⟩]
def r88_3 : List AR := [⟨some 18, .mov (.t 9), [], none⟩,
  ⟨some 19, .mov (.t 1), [], none⟩,
  ⟨some 20, .bin .gtr (.t 18) (.t 19), [0, 1], none⟩,
  ⟨some 21, .mov (.t 20), [2], none⟩,
  ⟨some 22, .mov (.t 3), [3], some (21, true)⟩,
  ⟨some 23, .mov (.t 0), [3], some (21, true)⟩,
  ⟨some 24, .mov (.t 9), [3], some (21, true)⟩,
  ⟨some 25, .iad 7 (.t 23) (.t 24), [5, 6, 3], some (21, true)⟩,
  ⟨some 26, .ld true 7 (.t 25), [7, 3], some (21, true)⟩,
  ⟨some 27, .mov (.t 0), [3], some (21, true)⟩,
  ⟨some 28, .mov (.t 9), [3], some (21, true)⟩,
  ⟨some 29, .bin .sub (.t 28) (.c (.int .i64 1)), [10, 3], some (21, true)⟩,
  ⟨some 30, .iad 7 (.t 27) (.t 29), [9, 11, 3], some (21, true)⟩,
  ⟨some 31, .ld true 7 (.t 30), [12, 3], some (21, true)⟩,
  ⟨some 32, .callv (.t 22) [.t 26, .t 31], [4, 8, 13, 3, 3], some (21, true)⟩,
  ⟨some 33, .bin .lss (.t 32) (.c (.int .i64 0)), [14, 3], some (21, true)⟩,
  ⟨some 34, .pick (.t 21) (.t 33) (.c (.bool false)), [3, 15], none⟩]
def r88_4 : List AR := [⟨some 37, .mov (.t 0), [], none⟩,
  ⟨some 38, .mov (.t 9), [], none⟩,
  ⟨some 39, .mov (.t 0), [], none⟩,
  ⟨some 40, .mov (.t 9), [], none⟩,
  ⟨some 41, .bin .sub (.t 40) (.c (.int .i64 1)), [3], none⟩,
  ⟨some 42, .mov (.t 0), [], none⟩,
  ⟨some 43, .mov (.t 9), [], none⟩,
  ⟨some 44, .bin .sub (.t 43) (.c (.int .i64 1)), [6], none⟩,
  ⟨some 45, .iad 7 (.t 42) (.t 44), [5, 7], none⟩,
  ⟨some 46, .ld true 7 (.t 45), [8], none⟩,
  ⟨some 47, .mov (.t 0), [], none⟩,
  ⟨some 48, .mov (.t 9), [], none⟩,
  ⟨some 49, .iad 7 (.t 47) (.t 48), [10, 11], none⟩,
  ⟨some 50, .ld true 7 (.t 49), [12], none⟩,
  ⟨some 51, .iad 7 (.t 37) (.t 38), [0, 1, 0, 1, 5, 6, 7, 8, 9, 13], none⟩,
  ⟨none, .st 7 (.t 51) (.t 46), [14, 9, 0, 1, 5, 6, 7, 8, 9, 13], none⟩,
  ⟨some 52, .iad 7 (.t 39) (.t 41), [2, 4, 0, 1, 2, 3, 4, 5, 6, 7, 8, 9, 10, 11, 12, 13, 14, 15], none⟩,
  ⟨none, .st 7 (.t 52) (.t 50), [16, 13, 15, 0, 1, 2, 3, 4, 5, 6, 7, 8, 9, 10, 11, 12, 13, 14, 15], none⟩]
def r88_5 : List AR := [⟨some 35, .mov (.t 9), [], none⟩,
  ⟨some 36, .bin .sub (.t 35) (.c (.int .i64 1)), [0], none⟩,
  ⟨some 9, .mov (.t 36), [1, 0, 1], none⟩]
def r88_6 : List AR := [⟨some 15, .mov (.t 8), [], none⟩,
  ⟨some 16, .bin .add (.t 15) (.c (.int .i64 1)), [0], none⟩,
  ⟨some 8, .mov (.t 16), [1, 0, 1], none⟩]
def c88 : ACode := .seq (.reg r88_0 false) (.blk 0 (.loop (.seq (.seq (.reg r88_1 false) (.cond (.t 14) (.skip) (.exit 0))) (.seq (.blk 1 (.seq (.reg r88_2 false) (.blk 2 (.loop (.seq (.seq (.reg r88_3 true) (.cond (.t 34) (.skip) (.exit 2))) (.seq (.blk 3 (.reg r88_4 true)) (.reg r88_5 false))))))) (.reg r88_6 false)))))
theorem body88 : Try.f88.body.map (comp Try.prog 53) = some c88 := by kernel_rfl
theorem res88 : allSome (Try.f88.results.toList.map (compRes Try.prog)) = some [] := by kernel_rfl
theorem cok88 {S : FSpec} (h : ∀ args K, S args K → args.all argOk = true ∧ args.length ≤ 53 ∧ AW Try.prog 53 (some ownP) c88 (initS args) (retPost [] args K)) : COK Try.prog 88 S := of_body Try.func88 Try.ntmps88 body88 res88 h

def J88c66_3 (v1401 : List TLine) (v1402 : Int) (N1429 : ((List TLine) × Int) → Prop) (N1293 : ((List TLine) × Int) → Prop) (v1130 : Int) (v1446 : Bool) : Prop :=
  Cond v1446 (Idx v1401 (w64 (v1402 - 1)) fun x1450 => Idx v1401 v1402 fun x1451 => Idx (List.set v1401 v1402.toNat x1450) (w64 (v1402 - 1)) fun x1452 => N1429 ((List.set (List.set v1401 v1402.toNat x1450) ((w64 (v1402 - 1)).toNat) x1451), (w64 (v1402 - 1)))) (N1293 (v1401, (w64 (v1130 + 1))))

def L88c66_2 (a_88c66 : Int) (N1293 : ((List TLine) × Int) → Prop) (v1130 : Int) (v1401 : List TLine) (v1402 : Int) (N1429 : ((List TLine) × Int) → Prop) : Prop :=
  Cond (decide (v1402 > a_88c66)) (Idx v1401 v1402 fun x1453 => Idx v1401 (w64 (v1402 - 1)) fun x1454 => W66 x1453 x1454 fun r1455 => J88c66_3 v1401 v1402 N1429 N1293 v1130 (decide (r1455 < 0))) (J88c66_3 v1401 v1402 N1429 N1293 v1130 false)

def L88c66_1 (b_88c66 : Int) (a_88c66 : Int) (data_88c66 : List TLine) (K : (List TLine) → Prop) (v1129 : List TLine) (v1130 : Int) (N1293 : ((List TLine) × Int) → Prop) : Prop :=
  Cond (decide (v1130 < b_88c66)) (LoopW (fun (s : ((List TLine) × Int)) N1429 => L88c66_2 a_88c66 N1293 v1130 s.1 s.2 N1429) (v1129, v1130)) (v1129.length = data_88c66.length ∧ K v1129)

/-- slices.insertionSortCmpFunc[sleuth/estimate.Line] -/
def W88c66 (data_88c66 : List TLine) (a_88c66 : Int) (b_88c66 : Int) (K : (List TLine) → Prop) : Prop :=
  LoopW (fun (s : ((List TLine) × Int)) N1293 => L88c66_1 b_88c66 a_88c66 data_88c66 K s.1 s.2 N1293) (data_88c66, (w64 (a_88c66 + 1)))

def S88c66 : FSpec := fun args K => ∃ (data_88c66 : List TLine), ∃ (a_88c66 : Int), ∃ (b_88c66 : Int), ∃ (Kr : (List TLine) → Prop), args = [.one (.own 41 7 (List.map TLine.enc data_88c66)), .one (.d (.int .i64 a_88c66)), .one (.d (.int .i64 b_88c66)), .one (.d (.fn 66 []))] ∧ W88c66 data_88c66 a_88c66 b_88c66 Kr ∧ ∀ r, r.length = data_88c66.length → Kr r → K (.tup []) [List.map TLine.enc r]

theorem en88 : enters Try.prog 88 = true := by unfold enters; rw [Try.func88]; rfl
theorem cl88c66 (data_88c66 : List TLine) (a_88c66 : Int) (b_88c66 : Int) {Kr : (List TLine) → Prop} (h : W88c66 data_88c66 a_88c66 b_88c66 Kr) : S88c66 [.one (.own 41 7 (List.map TLine.enc data_88c66)), .one (.d (.int .i64 a_88c66)), .one (.d (.int .i64 b_88c66)), .one (.d (.fn 66 []))] (fun rv rows => ∃ r, rv = (.tup []) ∧ rows = [List.map TLine.enc r] ∧ r.length = data_88c66.length ∧ Kr r) := ⟨data_88c66, a_88c66, b_88c66, Kr, rfl, h, fun r hl hr => ⟨r, rfl, rfl, hl, hr⟩⟩

theorem ok88c66 : COK Try.prog 88 S88c66 := by
  refine cok88 fun args K0 hS => ?_
  obtain ⟨data_88c66, a_88c66, b_88c66, K, rfl, h, hK⟩ := hS
  refine ⟨by kernel_rfl, by simp, ?_⟩
  unfold W88c66 at h
  refine AW.sregL [(0, none), (1, none), (2, none)] (by kernel_rfl) ?_
  refine l_ds 10 (.one (.d (.int .i64 a_88c66))) ?_
  refine l_ds 11 (.one (.d (.int .i64 (w64 (a_88c66 + 1))))) ?_
  refine l_ds 8 (.one (.d (.int .i64 (w64 (a_88c66 + 1))))) ?_
  refine l_nil ?_
  refine AW.blk ?_
  refine AW.loopL (S := ((List TLine) × Int)) (fun s => (fun (v1129 : List TLine) (v1130 : Int) => [(0, .one (.view 900000 0 0 ((List.map TLine.enc v1129).length))), (1, .one (.d (.int .i64 a_88c66))), (2, .one (.d (.int .i64 b_88c66))), (3, .one (.d (.fn 66 []))), (8, .one (.d (.int .i64 v1130)))]) s.1 s.2) (fun s => (fun (v1129 : List TLine) (v1130 : Int) => [(900000, .pure true 41 7 (List.map TLine.enc v1129))]) s.1 s.2) (fun (s : ((List TLine) × Int)) N1293 => L88c66_1 b_88c66 a_88c66 data_88c66 K s.1 s.2 N1293) (N := fun s => LoopW (fun (s : ((List TLine) × Int)) N1293 => L88c66_1 b_88c66 a_88c66 data_88c66 K s.1 s.2 N1293) s) (Lab.m (data_88c66, (w64 (a_88c66 + 1))) [(900000, some 900000)] h) (fun _ h => h) ?_
  rintro ⟨v1129, v1130⟩ N1293 h
  have h : L88c66_1 b_88c66 a_88c66 data_88c66 K v1129 v1130 N1293 := h
  unfold L88c66_1 at h
  refine AW.seq ?_
  refine AW.sregL [(0, none), (1, none), (2, none)] (by kernel_rfl) ?_
  refine l_ds 12 (.one (.d (.int .i64 v1130))) ?_
  refine l_ds 13 (.one (.d (.int .i64 b_88c66))) ?_
  refine l_ds 14 (.one (.d (.bool (decide (v1130 < b_88c66))))) ?_
  refine l_nil ?_
  refine AW.cond' (by kernel_rfl) h (fun h => ?_) (fun h => ?_)
  · refine AW.skip ?_
    refine q_fall ?_
    refine AW.seq ?_
    refine AW.blk ?_
    refine AW.sregL [(0, none), (1, none)] (by kernel_rfl) ?_
    refine l_ds 17 (.one (.d (.int .i64 v1130))) ?_
    refine l_ds 9 (.one (.d (.int .i64 v1130))) ?_
    refine l_nil ?_
    refine AW.blk ?_
    refine AW.loopL (S := ((List TLine) × Int)) (fun s => (fun (v1401 : List TLine) (v1402 : Int) => [(0, .one (.view 900000 0 0 ((List.map TLine.enc v1401).length))), (1, .one (.d (.int .i64 a_88c66))), (2, .one (.d (.int .i64 b_88c66))), (3, .one (.d (.fn 66 []))), (8, .one (.d (.int .i64 v1130))), (9, .one (.d (.int .i64 v1402)))]) s.1 s.2) (fun s => (fun (v1401 : List TLine) (v1402 : Int) => [(900000, .pure true 41 7 (List.map TLine.enc v1401))]) s.1 s.2) (fun (s : ((List TLine) × Int)) N1429 => L88c66_2 a_88c66 N1293 v1130 s.1 s.2 N1429) (N := fun s => LoopW (fun (s : ((List TLine) × Int)) N1429 => L88c66_2 a_88c66 N1293 v1130 s.1 s.2 N1429) s) (Lab.m (v1129, v1130) [(900000, some 900000)] h) (fun _ h => h) ?_
    rintro ⟨v1401, v1402⟩ N1429 h
    have h : L88c66_2 a_88c66 N1293 v1130 v1401 v1402 N1429 := h
    unfold L88c66_2 at h
    refine AW.seq ?_
    refine AW.seqL (S := Bool) (fun s => (fun (v1446 : Bool) => [(0, .one (.view 900000 0 0 ((List.map TLine.enc v1401).length))), (1, .one (.d (.int .i64 a_88c66))), (2, .one (.d (.int .i64 b_88c66))), (3, .one (.d (.fn 66 []))), (8, .one (.d (.int .i64 v1130))), (9, .one (.d (.int .i64 v1402))), (34, .one (.d (.bool v1446)))]) s) (fun s => (fun (v1446 : Bool) => [(900000, .pure true 41 7 (List.map TLine.enc v1401))]) s) (fun s : Bool => J88c66_3 v1401 v1402 N1429 N1293 v1130 s) ?_ ?_
    · refine AW.regdL follows_mixed [[], [], [0, 1], [0, 1, 2], [0, 1, 2, 3], [0, 1, 2, 3], [0, 1, 2, 3], [0, 1, 2, 3, 5, 6], [0, 1, 2, 3, 5, 6, 7], [0, 1, 2, 3], [0, 1, 2, 3], [0, 1, 2, 3, 10], [0, 1, 2, 3, 9, 10, 11], [0, 1, 2, 3, 9, 10, 11, 12], [0, 1, 2, 3, 4, 5, 6, 7, 8, 9, 10, 11, 12, 13], [0, 1, 2, 3, 4, 5, 6, 7, 8, 9, 10, 11, 12, 13, 14], [0, 1, 2, 3, 4, 5, 6, 7, 8, 9, 10, 11, 12, 13, 14, 15]] [(0, none), (1, none), (2, none), (3, none), (4, none), (5, none), (6, none), (7, none), (8, none), (9, none), (10, none), (11, none), (12, none), (13, none), (14, none), (15, none), (16, none)] (by kernel_rfl) ?_
      refine l_ds 18 (.one (.d (.int .i64 v1402))) ?_
      refine l_ds 19 (.one (.d (.int .i64 a_88c66))) ?_
      refine l_ds 20 (.one (.d (.bool (decide (v1402 > a_88c66))))) ?_
      refine l_ds 21 (.one (.d (.bool (decide (v1402 > a_88c66))))) ?_
      refine l_split (s := 21) (by kernel_rfl) h (fun h => ?_) (fun h => ?_)
      · refine l_ds 22 (.one (.d (.fn 66 []))) ?_
        refine l_ds 23 (.one (.view 900000 0 0 ((List.map TLine.enc v1401).length))) ?_
        refine l_ds 24 (.one (.d (.int .i64 v1402))) ?_
        obtain ⟨h824, x1453, h825, h⟩ := h
        refine l_spec (some 25) (.iad 7 (.t 23) (.t 24)) (.one (.ref 900000 0 v1402.toNat 0), []) (by kernel_rfl) (detA_none (d_iad_v (enc := TLine.enc) (k := .i64) (E := 41) (l := true) (ys := dmm (List.map TLine.enc v1401)) v1401 x1453 (by kernel_rfl) (by kernel_rfl) (by kernel_rfl) (by kernel_rfl) h824 h825)) ?_
        refine l_spec (some 26) (.ld true 7 (.t 25)) (.agg [.d (.str x1453.group.service), .d (.str x1453.group.version), .d (.str x1453.group.operation), .d (.int .i64 x1453.total.spans), .d (.int .i64 x1453.total.errors), .d (.int .i64 x1453.total.duration), .d (.int .i64 x1453.total.traces)], []) (by kernel_rfl) (detA_none (d_ld_row (enc := TLine.enc) (o := 900000) (g := 0) (i := v1402.toNat) (off := 0) (E := 41) (sz := 7) (l := true) v1401 x1453 (by kernel_rfl) (by kernel_rfl) (by kernel_rfl) h825 (by kernel_rfl))) ?_
        refine l_ds 27 (.one (.view 900000 0 0 ((List.map TLine.enc v1401).length))) ?_
        refine l_ds 28 (.one (.d (.int .i64 v1402))) ?_
        refine l_ds 29 (.one (.d (.int .i64 (w64 (v1402 - 1))))) ?_
        obtain ⟨h826, x1454, h827, h⟩ := h
        refine l_spec (some 30) (.iad 7 (.t 27) (.t 29)) (.one (.ref 900000 0 ((w64 (v1402 - 1)).toNat) 0), []) (by kernel_rfl) (detA_none (d_iad_v (enc := TLine.enc) (k := .i64) (E := 41) (l := true) (ys := dmm (List.map TLine.enc v1401)) v1401 x1454 (by kernel_rfl) (by kernel_rfl) (by kernel_rfl) (by kernel_rfl) h826 h827)) ?_
        refine l_spec (some 31) (.ld true 7 (.t 30)) (.agg [.d (.str x1454.group.service), .d (.str x1454.group.version), .d (.str x1454.group.operation), .d (.int .i64 x1454.total.spans), .d (.int .i64 x1454.total.errors), .d (.int .i64 x1454.total.duration), .d (.int .i64 x1454.total.traces)], []) (by kernel_rfl) (detA_none (d_ld_row (enc := TLine.enc) (o := 900000) (g := 0) (i := ((w64 (v1402 - 1)).toNat)) (off := 0) (E := 41) (sz := 7) (l := true) v1401 x1454 (by kernel_rfl) (by kernel_rfl) (by kernel_rfl) h827 (by kernel_rfl))) ?_
        refine l_call ok66 en66 (some 32) [.agg [.d (.str x1453.group.service), .d (.str x1453.group.version), .d (.str x1453.group.operation), .d (.int .i64 x1453.total.spans), .d (.int .i64 x1453.total.errors), .d (.int .i64 x1453.total.duration), .d (.int .i64 x1453.total.traces)], .agg [.d (.str x1454.group.service), .d (.str x1454.group.version), .d (.str x1454.group.operation), .d (.int .i64 x1454.total.spans), .d (.int .i64 x1454.total.errors), .d (.int .i64 x1454.total.duration), .d (.int .i64 x1454.total.traces)]] [false, false] [.agg (List.map RC.d [.str x1453.group.service, .str x1453.group.version, .str x1453.group.operation, .int .i64 x1453.total.spans, .int .i64 x1453.total.errors, .int .i64 x1453.total.duration, .int .i64 x1453.total.traces]), .agg (List.map RC.d [.str x1454.group.service, .str x1454.group.version, .str x1454.group.operation, .int .i64 x1454.total.spans, .int .i64 x1454.total.errors, .int .i64 x1454.total.duration, .int .i64 x1454.total.traces])] [] (by kernel_rfl) ⟨by kernel_rfl, by kernel_rfl⟩ (by kernel_rfl) (by kernel_rfl) (by kernel_rfl) (cl66 x1453 x1454 h) ?_
        rintro hR _ _ ⟨r1455, rfl, rfl, h⟩
        refine ⟨false, (.one (.d (.int .i64 r1455)), []), (fun hz => (by cases hz)), (ret_R hR (by kernel_rfl)), ?_⟩
        refine l_ds 33 (.one (.d (.bool (decide (r1455 < 0))))) ?_
        refine l_ds 34 (.one (.d (.bool (decide (r1455 < 0))))) ?_
        refine l_nil ?_
        refine q_fall ?_
        exact Lab.m (decide (r1455 < 0)) [(900000, some 900000)] h
      · refine l_ds 22 (.tup []) ?_
        refine l_ds 23 (.tup []) ?_
        refine l_ds 24 (.tup []) ?_
        refine l_ds 25 (.tup []) ?_
        refine l_ds 26 (.tup []) ?_
        refine l_ds 27 (.tup []) ?_
        refine l_ds 28 (.tup []) ?_
        refine l_ds 29 (.tup []) ?_
        refine l_ds 30 (.tup []) ?_
        refine l_ds 31 (.tup []) ?_
        refine l_skip (some 32) (by kernel_rfl) (by kernel_rfl) (by kernel_rfl) ?_
        refine l_ds 33 (.tup []) ?_
        refine l_ds 34 (.one (.d (.bool false))) ?_
        refine l_nil ?_
        refine q_fall ?_
        exact Lab.m false [(900000, some 900000)] h
    · rintro v1446 h
      have h : J88c66_3 v1401 v1402 N1429 N1293 v1130 v1446 := h
      unfold J88c66_3 at h
      refine AW.cond' (by kernel_rfl) h (fun h => ?_) (fun h => ?_)
      · refine AW.skip ?_
        refine q_fall ?_
        refine AW.seq ?_
        refine AW.blk ?_
        refine AW.regdL follows_mixed [[], [], [], [], [3], [], [], [6], [5, 6, 7], [5, 6, 7, 8], [], [], [10, 11], [10, 11, 12], [0, 1, 5, 6, 7, 8, 9, 10, 11, 12, 13], [0, 1, 5, 6, 7, 8, 9, 10, 11, 12, 13, 14], [0, 1, 2, 3, 4, 5, 6, 7, 8, 9, 10, 11, 12, 13, 14, 15], [0, 1, 2, 3, 4, 5, 6, 7, 8, 9, 10, 11, 12, 13, 14, 15, 16]] [(0, none), (1, none), (2, none), (3, none), (4, none), (5, none), (6, none), (7, none), (8, none), (9, none), (10, none), (11, none), (12, none), (13, none), (14, none), (15, none), (16, none), (17, none)] (by kernel_rfl) ?_
        refine l_ds 37 (.one (.view 900000 0 0 ((List.map TLine.enc v1401).length))) ?_
        refine l_ds 38 (.one (.d (.int .i64 v1402))) ?_
        refine l_ds 39 (.one (.view 900000 0 0 ((List.map TLine.enc v1401).length))) ?_
        refine l_ds 40 (.one (.d (.int .i64 v1402))) ?_
        refine l_ds 41 (.one (.d (.int .i64 (w64 (v1402 - 1))))) ?_
        refine l_ds 42 (.one (.view 900000 0 0 ((List.map TLine.enc v1401).length))) ?_
        refine l_ds 43 (.one (.d (.int .i64 v1402))) ?_
        refine l_ds 44 (.one (.d (.int .i64 (w64 (v1402 - 1))))) ?_
        obtain ⟨h816, x1450, h817, h⟩ := h
        refine l_spec (some 45) (.iad 7 (.t 42) (.t 44)) (.one (.ref 900000 0 ((w64 (v1402 - 1)).toNat) 0), []) (by kernel_rfl) (detA_none (d_iad_v (enc := TLine.enc) (k := .i64) (E := 41) (l := true) (ys := dmm (List.map TLine.enc v1401)) v1401 x1450 (by kernel_rfl) (by kernel_rfl) (by kernel_rfl) (by kernel_rfl) h816 h817)) ?_
        refine l_spec (some 46) (.ld true 7 (.t 45)) (.agg [.d (.str x1450.group.service), .d (.str x1450.group.version), .d (.str x1450.group.operation), .d (.int .i64 x1450.total.spans), .d (.int .i64 x1450.total.errors), .d (.int .i64 x1450.total.duration), .d (.int .i64 x1450.total.traces)], []) (by kernel_rfl) (detA_none (d_ld_row (enc := TLine.enc) (o := 900000) (g := 0) (i := ((w64 (v1402 - 1)).toNat)) (off := 0) (E := 41) (sz := 7) (l := true) v1401 x1450 (by kernel_rfl) (by kernel_rfl) (by kernel_rfl) h817 (by kernel_rfl))) ?_
        refine l_ds 47 (.one (.view 900000 0 0 ((List.map TLine.enc v1401).length))) ?_
        refine l_ds 48 (.one (.d (.int .i64 v1402))) ?_
        obtain ⟨h818, x1451, h819, h⟩ := h
        refine l_spec (some 49) (.iad 7 (.t 47) (.t 48)) (.one (.ref 900000 0 v1402.toNat 0), []) (by kernel_rfl) (detA_none (d_iad_v (enc := TLine.enc) (k := .i64) (E := 41) (l := true) (ys := dmm (List.map TLine.enc v1401)) v1401 x1451 (by kernel_rfl) (by kernel_rfl) (by kernel_rfl) (by kernel_rfl) h818 h819)) ?_
        refine l_spec (some 50) (.ld true 7 (.t 49)) (.agg [.d (.str x1451.group.service), .d (.str x1451.group.version), .d (.str x1451.group.operation), .d (.int .i64 x1451.total.spans), .d (.int .i64 x1451.total.errors), .d (.int .i64 x1451.total.duration), .d (.int .i64 x1451.total.traces)], []) (by kernel_rfl) (detA_none (d_ld_row (enc := TLine.enc) (o := 900000) (g := 0) (i := v1402.toNat) (off := 0) (E := 41) (sz := 7) (l := true) v1401 x1451 (by kernel_rfl) (by kernel_rfl) (by kernel_rfl) h819 (by kernel_rfl))) ?_
        refine l_spec (some 51) (.iad 7 (.t 37) (.t 38)) (.one (.ref 900000 0 v1402.toNat 0), []) (by kernel_rfl) (detA_none (d_iad_v (enc := TLine.enc) (k := .i64) (E := 41) (l := true) (ys := dmm (List.map TLine.enc v1401)) v1401 x1451 (by kernel_rfl) (by kernel_rfl) (by kernel_rfl) (by kernel_rfl) h818 h819)) ?_
        have h820 := set_get x1450 h819
        refine l_spec none (.st 7 (.t 51) (.t 46)) (.tup [], [(900000, 0, .row true 41 7 (dmm (List.map TLine.enc (List.set v1401 v1402.toNat x1450))))]) (by kernel_rfl) (detA_none (d_st_row (enc := TLine.enc) (i := v1402.toNat) (off := 0) (vs := [.d (.str x1450.group.service), .d (.str x1450.group.version), .d (.str x1450.group.operation), .d (.int .i64 x1450.total.spans), .d (.int .i64 x1450.total.errors), .d (.int .i64 x1450.total.duration), .d (.int .i64 x1450.total.traces)]) v1401 x1451 x1450 (by kernel_rfl) (by kernel_rfl) (by kernel_rfl) h819 (by kernel_rfl) (by kernel_rfl) (by kernel_rfl))) ?_
        refine l_renorm 0 (.one (.view 900000 0 0 ((List.map TLine.enc (List.set v1401 v1402.toNat x1450)).length))) (Eq.trans (b := .one (.view 900000 0 0 ((List.map TLine.enc v1401).length))) (by kernel_rfl) (by simp only [List.length_map, List.length_set, List.length_cons, List.length_nil])) ?_
        refine l_renorm 39 (.one (.view 900000 0 0 ((List.map TLine.enc (List.set v1401 v1402.toNat x1450)).length))) (Eq.trans (b := .one (.view 900000 0 0 ((List.map TLine.enc v1401).length))) (by kernel_rfl) (by simp only [List.length_map, List.length_set, List.length_cons, List.length_nil])) ?_
        obtain ⟨h821, x1452, h822, h⟩ := h
        refine l_spec (some 52) (.iad 7 (.t 39) (.t 41)) (.one (.ref 900000 0 ((w64 (v1402 - 1)).toNat) 0), []) (by kernel_rfl) (detA_none (d_iad_v (enc := TLine.enc) (k := .i64) (E := 41) (l := true) (ys := dmm (List.map TLine.enc (List.set v1401 v1402.toNat x1450))) (List.set v1401 v1402.toNat x1450) x1452 (by kernel_rfl) (by kernel_rfl) (by kernel_rfl) (by kernel_rfl) h821 h822)) ?_
        have h823 := set_get x1451 h822
        refine l_spec none (.st 7 (.t 52) (.t 50)) (.tup [], [(900000, 0, .row true 41 7 (dmm (List.map TLine.enc (List.set (List.set v1401 v1402.toNat x1450) ((w64 (v1402 - 1)).toNat) x1451))))]) (by kernel_rfl) (detA_none (d_st_row (enc := TLine.enc) (i := ((w64 (v1402 - 1)).toNat)) (off := 0) (vs := [.d (.str x1451.group.service), .d (.str x1451.group.version), .d (.str x1451.group.operation), .d (.int .i64 x1451.total.spans), .d (.int .i64 x1451.total.errors), .d (.int .i64 x1451.total.duration), .d (.int .i64 x1451.total.traces)]) (List.set v1401 v1402.toNat x1450) x1452 x1451 (by kernel_rfl) (by kernel_rfl) (by kernel_rfl) h822 (by kernel_rfl) (by kernel_rfl) (by kernel_rfl))) ?_
        refine l_renorm 0 (.one (.view 900000 0 0 ((List.map TLine.enc (List.set (List.set v1401 v1402.toNat x1450) ((w64 (v1402 - 1)).toNat) x1451)).length))) (Eq.trans (b := .one (.view 900000 0 0 ((List.map TLine.enc (List.set v1401 v1402.toNat x1450)).length))) (by kernel_rfl) (by simp only [List.length_map, List.length_set, List.length_cons, List.length_nil])) ?_
        refine l_nil ?_
        refine q_bfall ?_
        refine q_fall ?_
        refine AW.regL [(0, none), (1, none), (2, none)] (by kernel_rfl) ?_
        refine l_ds 35 (.one (.d (.int .i64 v1402))) ?_
        refine l_ds 36 (.one (.d (.int .i64 (w64 (v1402 - 1))))) ?_
        refine l_ds 9 (.one (.d (.int .i64 (w64 (v1402 - 1))))) ?_
        refine l_nil ?_
        refine q_fall ?_
        exact Lab.m ((List.set (List.set v1401 v1402.toNat x1450) ((w64 (v1402 - 1)).toNat) x1451), (w64 (v1402 - 1))) [(900000, some 900000)] h
      · refine AW.exit ?_
        refine q_exit ?_
        refine q_exit ?_
        refine q_bhere ?_
        refine q_bfall ?_
        refine q_fall ?_
        refine AW.regL [(0, none), (1, none), (2, none)] (by kernel_rfl) ?_
        refine l_ds 15 (.one (.d (.int .i64 v1130))) ?_
        refine l_ds 16 (.one (.d (.int .i64 (w64 (v1130 + 1))))) ?_
        refine l_ds 8 (.one (.d (.int .i64 (w64 (v1130 + 1))))) ?_
        refine l_nil ?_
        refine q_fall ?_
        exact Lab.m (v1401, (w64 (v1130 + 1))) [(900000, some 900000)] h
  · refine AW.exit ?_
    refine q_exit ?_
    refine q_exit ?_
    refine q_bhere ?_
    obtain ⟨h829, h⟩ := h
    exact q_end [] [] [] [List.map TLine.enc v1129] [] (by kernel_rfl) ⟨by kernel_rfl, by kernel_rfl⟩ (by kernel_rfl) (by kernel_rfl) (by kernel_rfl) (b_own (List.map TLine.enc v1129) rfl (by kernel_rfl) (by kernel_rfl) (by simp only [List.length_map]; exact h829)) (Eq.mp (by kernel_rfl) (hK v1129 h829 h)) (.inl rfl)
def r80_0 : List AR := [⟨some 10, .mov (.c (.bool true)), [], none⟩]
def r80_1 : List AR := [⟨some 11, .mov (.c (.bool true)), [], none⟩]
def r80_2 : List AR := [⟨some 21, .mov (.t 2), [], none⟩,
  ⟨some 22, .mov (.t 1), [], none⟩,
  ⟨some 23, .bin .sub (.t 21) (.t 22), [0, 1], none⟩,
  ⟨some 12, .mov (.t 23), [2, 0, 1, 2], none⟩]
def r80_3 : List AR := [⟨some 24, .mov (.t 12), [], none⟩,
  ⟨some 25, .bin .leq (.t 24) (.c (.int .i64 12)), [0], none⟩]
def r80_4 : List AR := [⟨some 26, .mov (.t 0), [], none⟩,
  ⟨some 27, .mov (.t 1), [], none⟩,
  ⟨some 28, .mov (.t 2), [], none⟩,
  ⟨some 29, .mov (.t 4), [], none⟩,
  ⟨some 30, .call 88 [.t 26, .t 27, .t 28, .t 29], [0, 1, 2, 3], none⟩]
def r80_5 : List AR := [⟨some 31, .mov (.t 3), [], none⟩,
  ⟨some 32, .bin .eql (.t 31) (.c (.int .i64 0)), [0], none⟩]
def r80_6 : List AR := [⟨some 33, .mov (.t 0), [], none⟩,
  ⟨some 34, .mov (.t 1), [], none⟩,
  ⟨some 35, .mov (.t 2), [], none⟩,
  ⟨some 36, .mov (.t 4), [], none⟩,
  ⟨some 37, .call 90 [.t 33, .t 34, .t 35, .t 36], [0, 1, 2, 3], none⟩]
def r80_7 : List AR := [⟨some 38, .mov (.t 10), [], none⟩,
  ⟨some 39, .un .not (.t 38), [0], none⟩]
def r80_8 : List AR := [⟨some 40, .mov (.t 0), [], none⟩,
  ⟨some 41, .mov (.t 1), [], none⟩,
  ⟨some 42, .mov (.t 2), [], none⟩,
  ⟨some 43, .mov (.t 4), [], none⟩,
  ⟨some 44, .call 91 [.t 40, .t 41, .t 42, .t 43], [0, 1, 2, 3], none⟩]
def r80_9 : List AR := [⟨some 45, .mov (.t 3), [], none⟩,
  ⟨some 46, .bin .sub (.t 45) (.c (.int .i64 1)), [0], none⟩,
  ⟨some 3, .mov (.t 46), [1, 0, 1], none⟩]
def r80_10 : List AR := [⟨some 48, .mov (.t 0), [], none⟩,
  ⟨some 49, .mov (.t 1), [], none⟩,
  ⟨some 50, .mov (.t 2), [], none⟩,
  ⟨some 51, .mov (.t 4), [], none⟩,
  ⟨some 52, .call 92 [.t 48, .t 49, .t 50, .t 51], [0, 1, 2, 3], none⟩,
  ⟨some 47, .mov (.t 52), [4], none⟩,
  ⟨some 53, .ext (.t 47) 0, [5], none⟩,
  ⟨some 54, .ext (.t 47) 1, [5], none⟩,
  ⟨some 13, .mov (.t 53), [6, 4, 0, 1, 2, 3, 4, 5, 6], none⟩,
  ⟨some 14, .mov (.t 54), [7, 8, 0, 1, 2, 3, 4, 5, 6, 7, 8], none⟩]
def r80_11 : List AR := [⟨some 55, .mov (.t 14), [], none⟩,
  ⟨some 56, .bin .eql (.t 55) (.c (.int .i64 2)), [0], none⟩]
def r80_12 : List AR := [⟨some 57, .mov (.t 0), [], none⟩,
  ⟨some 58, .mov (.t 1), [], none⟩,
  ⟨some 59, .mov (.t 2), [], none⟩,
  ⟨some 60, .mov (.t 4), [], none⟩,
  ⟨some 61, .call 93 [.t 57, .t 58, .t 59, .t 60], [0, 1, 2, 3], none⟩]
def r80_13 : List AR := [⟨some 62, .mov (.t 2), [], none⟩,
  ⟨some 63, .bin .sub (.t 62) (.c (.int .i64 1)), [0], none⟩,
  ⟨some 64, .mov (.t 13), [], none⟩,
  ⟨some 65, .mov (.t 1), [], none⟩,
  ⟨some 66, .bin .sub (.t 64) (.t 65), [2, 3], none⟩,
  ⟨some 67, .bin .sub (.t 63) (.t 66), [1, 4], none⟩,
  ⟨some 13, .mov (.t 67), [5, 0, 1, 2, 3, 4, 5], none⟩]
def r80_14 : List AR := [⟨some 14, .mov (.c (.int .i64 1)), [], none⟩]
def r80_15 : List AR := [⟨some 68, .mov (.t 10), [], none⟩,
  ⟨some 69, .mov (.t 68), [0], none⟩,
  ⟨some 70, .mov (.t 11), [1], some (69, true)⟩,
  ⟨some 71, .pick (.t 69) (.t 70) (.c (.bool false)), [1, 2], none⟩,
  ⟨some 72, .mov (.t 71), [3, 1], none⟩,
  ⟨some 73, .mov (.t 14), [4], some (72, true)⟩,
  ⟨some 74, .bin .eql (.t 73) (.c (.int .i64 1)), [5, 4], some (72, true)⟩,
  ⟨some 75, .pick (.t 72) (.t 74) (.c (.bool false)), [4, 6], none⟩]
def r80_16 : List AR := [⟨some 76, .mov (.t 0), [], none⟩,
  ⟨some 77, .mov (.t 1), [], none⟩,
  ⟨some 78, .mov (.t 2), [], none⟩,
  ⟨some 79, .mov (.t 4), [], none⟩,
  ⟨some 80, .call 94 [.t 76, .t 77, .t 78, .t 79], [0, 1, 2, 3], none⟩]
def r80_17 : List AR := [⟨some 81, .mov (.t 1), [], none⟩,
  ⟨some 82, .bin .gtr (.t 81) (.c (.int .i64 0)), [0], none⟩,
  ⟨some 83, .mov (.t 82), [1], none⟩,
  ⟨some 84, .mov (.t 4), [2], some (83, true)⟩,
  ⟨some 85, .mov (.t 0), [2], some (83, true)⟩,
  ⟨some 86, .mov (.t 1), [2], some (83, true)⟩,
  ⟨some 87, .bin .sub (.t 86) (.c (.int .i64 1)), [5, 2], some (83, true)⟩,
  ⟨some 88, .iad 7 (.t 85) (.t 87), [4, 6, 2], some (83, true)⟩,
  ⟨some 89, .ld true 7 (.t 88), [7, 2], some (83, true)⟩,
  ⟨some 90, .mov (.t 0), [2], some (83, true)⟩,
  ⟨some 91, .mov (.t 13), [2], some (83, true)⟩,
  ⟨some 92, .iad 7 (.t 90) (.t 91), [9, 10, 2], some (83, true)⟩,
  ⟨some 93, .ld true 7 (.t 92), [11, 2], some (83, true)⟩,
  ⟨some 94, .callv (.t 84) [.t 89, .t 93], [3, 8, 12, 2, 2], some (83, true)⟩,
  ⟨some 95, .bin .lss (.t 94) (.c (.int .i64 0)), [13, 2], some (83, true)⟩,
  ⟨some 96, .un .not (.t 95), [14, 2], some (83, true)⟩,
  ⟨some 97, .pick (.t 83) (.t 96) (.c (.bool false)), [2, 15], none⟩]
def r80_18 : List AR := [⟨some 98, .mov (.t 0), [], none⟩,
  ⟨some 99, .mov (.t 1), [], none⟩,
  ⟨some 100, .mov (.t 2), [], none⟩,
  ⟨some 101, .mov (.t 13), [], none⟩,
  ⟨some 102, .mov (.t 4), [], none⟩,
  ⟨some 103, .call 95 [.t 98, .t 99, .t 100, .t 101, .t 102], [0, 1, 2, 3, 4], none⟩,
  ⟨some 15, .mov (.t 103), [5, 5, 0, 1, 2, 3, 4, 5], none⟩]
def r80_19 : List AR := [⟨some 104, .mov (.t 15), [], none⟩,
  ⟨some 1, .mov (.t 104), [0, 0], none⟩]
def r80_20 : List AR := [⟨some 106, .mov (.t 0), [], none⟩,
  ⟨some 107, .mov (.t 1), [], none⟩,
  ⟨some 108, .mov (.t 2), [], none⟩,
  ⟨some 109, .mov (.t 13), [], none⟩,
  ⟨some 110, .mov (.t 4), [], none⟩,
  ⟨some 111, .call 96 [.t 106, .t 107, .t 108, .t 109, .t 110], [0, 1, 2, 3, 4], none⟩,
  ⟨some 105, .mov (.t 111), [5], none⟩,
  ⟨some 112, .ext (.t 105) 0, [6], none⟩,
  ⟨some 113, .ext (.t 105) 1, [6], none⟩,
  ⟨some 16, .mov (.t 112), [7, 5, 0, 1, 2, 3, 4, 5, 6, 7], none⟩,
  ⟨some 17, .mov (.t 113), [8, 9, 0, 1, 2, 3, 4, 5, 6, 7, 8, 9], none⟩]
def r80_21 : List AR := [⟨some 114, .mov (.t 17), [], none⟩,
  ⟨some 11, .mov (.t 114), [0, 0], none⟩]
def r80_22 : List AR := [⟨some 115, .mov (.t 16), [], none⟩,
  ⟨some 116, .mov (.t 1), [], none⟩,
  ⟨some 117, .bin .sub (.t 115) (.t 116), [0, 1], none⟩,
  ⟨some 118, .mov (.t 2), [], none⟩,
  ⟨some 119, .mov (.t 16), [], none⟩,
  ⟨some 120, .bin .sub (.t 118) (.t 119), [3, 4], none⟩,
  ⟨some 18, .mov (.t 117), [2, 0, 1, 2], none⟩,
  ⟨some 19, .mov (.t 120), [5, 6, 0, 1, 2, 3, 4, 5, 6], none⟩]
def r80_23 : List AR := [⟨some 121, .mov (.t 12), [], none⟩,
  ⟨some 122, .bin .quo (.t 121) (.c (.int .i64 8)), [0], none⟩,
  ⟨some 20, .mov (.t 122), [1, 0, 1], none⟩]
def r80_24 : List AR := [⟨some 123, .mov (.t 18), [], none⟩,
  ⟨some 124, .mov (.t 19), [], none⟩,
  ⟨some 125, .bin .lss (.t 123) (.t 124), [0, 1], none⟩]
def r80_25 : List AR := [⟨some 126, .mov (.t 18), [], none⟩,
  ⟨some 127, .mov (.t 20), [], none⟩,
  ⟨some 128, .bin .geq (.t 126) (.t 127), [0, 1], none⟩,
  ⟨some 10, .mov (.t 128), [2, 0, 1, 2], none⟩]
def r80_26 : List AR := [⟨some 129, .mov (.t 0), [], none⟩,
  ⟨some 130, .mov (.t 1), [], none⟩,
  ⟨some 131, .mov (.t 16), [], none⟩,
  ⟨some 132, .mov (.t 3), [], none⟩,
  ⟨some 133, .mov (.t 4), [], none⟩,
  ⟨some 134, .call 80 [.t 129, .t 130, .t 131, .t 132, .t 133], [0, 1, 2, 3, 4], none⟩]
def r80_27 : List AR := [⟨some 135, .mov (.t 16), [], none⟩,
  ⟨some 136, .bin .add (.t 135) (.c (.int .i64 1)), [0], none⟩,
  ⟨some 1, .mov (.t 136), [1, 0, 1], none⟩]
def r80_28 : List AR := [⟨some 137, .mov (.t 19), [], none⟩,
  ⟨some 138, .mov (.t 20), [], none⟩,
  ⟨some 139, .bin .geq (.t 137) (.t 138), [0, 1], none⟩,
  ⟨some 10, .mov (.t 139), [2, 0, 1, 2], none⟩]
def r80_29 : List AR := [⟨some 140, .mov (.t 0), [], none⟩,
  ⟨some 141, .mov (.t 16), [], none⟩,
  ⟨some 142, .bin .add (.t 141) (.c (.int .i64 1)), [1], none⟩,
  ⟨some 143, .mov (.t 2), [], none⟩,
  ⟨some 144, .mov (.t 3), [], none⟩,
  ⟨some 145, .mov (.t 4), [], none⟩,
  ⟨some 146, .call 80 [.t 140, .t 142, .t 143, .t 144, .t 145], [0, 2, 3, 4, 5], none⟩]
def r80_30 : List AR := [⟨some 147, .mov (.t 16), [], none⟩,
  ⟨some 2, .mov (.t 147), [0, 0], none⟩]
def c80 : ACode := .seq (.reg r80_0 false) (.seq (.reg r80_1 false) (.blk 0 (.loop (.blk 1 (.seq (.reg r80_2 false) (.seq (.seq (.reg r80_3 false) (.cond (.t 25) (.seq (.reg r80_4 false) (.ret)) (.skip))) (.seq (.seq (.reg r80_5 false) (.cond (.t 32) (.seq (.reg r80_6 false) (.ret)) (.skip))) (.seq (.seq (.reg r80_7 false) (.cond (.t 39) (.seq (.reg r80_8 false) (.reg r80_9 false)) (.skip))) (.seq (.reg r80_10 false) (.seq (.seq (.reg r80_11 false) (.cond (.t 56) (.seq (.reg r80_12 false) (.seq (.reg r80_13 false) (.reg r80_14 false))) (.skip))) (.seq (.seq (.reg r80_15 false) (.cond (.t 75) (.seq (.reg r80_16 false) (.cond (.t 80) (.ret) (.skip))) (.skip))) (.seq (.seq (.reg r80_17 true) (.cond (.t 97) (.seq (.reg r80_18 false) (.seq (.reg r80_19 false) (.exit 1))) (.skip))) (.seq (.reg r80_20 false) (.seq (.reg r80_21 false) (.seq (.reg r80_22 false) (.seq (.reg r80_23 false) (.seq (.reg r80_24 false) (.cond (.t 125) (.seq (.reg r80_25 false) (.seq (.reg r80_26 false) (.reg r80_27 false))) (.seq (.reg r80_28 false) (.seq (.reg r80_29 false) (.reg r80_30 false)))))))))))))))))))))
theorem body80 : Try.f80.body.map (comp Try.prog 148) = some c80 := by kernel_rfl
theorem res80 : allSome (Try.f80.results.toList.map (compRes Try.prog)) = some [] := by kernel_rfl
theorem cok80 {S : FSpec} (h : ∀ args K, S args K → args.all argOk = true ∧ args.length ≤ 148 ∧ AW Try.prog 148 (some ownP) c80 (initS args) (retPost [] args K)) : COK Try.prog 80 S := of_body Try.func80 Try.ntmps80 body80 res80 h

def L80c66_1 (b_80c66 : Int) (a_80c66 : Int) (data_80c66 : List TLine) (K : (List TLine) → Prop) (N1460 : Unit → Prop) : Prop :=
  (decide ((w64 (b_80c66 - a_80c66)) ≤ 12)) = true ∧ (W88c66 data_80c66 a_80c66 b_80c66 fun r1464 => r1464.length = data_80c66.length ∧ K r1464)

/-- slices.pdqsortCmpFunc[sleuth/estimate.Line] -/
def W80c66 (data_80c66 : List TLine) (a_80c66 : Int) (b_80c66 : Int) (limit_80c66 : Int) (K : (List TLine) → Prop) : Prop :=
  LoopW (fun (s : Unit) N1460 => L80c66_1 b_80c66 a_80c66 data_80c66 K  N1460) ()

def S80c66 : FSpec := fun args K => ∃ (data_80c66 : List TLine), ∃ (a_80c66 : Int), ∃ (b_80c66 : Int), ∃ (limit_80c66 : Int), ∃ (Kr : (List TLine) → Prop), args = [.one (.own 41 7 (List.map TLine.enc data_80c66)), .one (.d (.int .i64 a_80c66)), .one (.d (.int .i64 b_80c66)), .one (.d (.int .i64 limit_80c66)), .one (.d (.fn 66 []))] ∧ W80c66 data_80c66 a_80c66 b_80c66 limit_80c66 Kr ∧ ∀ r, r.length = data_80c66.length → Kr r → K (.tup []) [List.map TLine.enc r]

theorem en80 : enters Try.prog 80 = true := by unfold enters; rw [Try.func80]; rfl
theorem cl80c66 (data_80c66 : List TLine) (a_80c66 : Int) (b_80c66 : Int) (limit_80c66 : Int) {Kr : (List TLine) → Prop} (h : W80c66 data_80c66 a_80c66 b_80c66 limit_80c66 Kr) : S80c66 [.one (.own 41 7 (List.map TLine.enc data_80c66)), .one (.d (.int .i64 a_80c66)), .one (.d (.int .i64 b_80c66)), .one (.d (.int .i64 limit_80c66)), .one (.d (.fn 66 []))] (fun rv rows => ∃ r, rv = (.tup []) ∧ rows = [List.map TLine.enc r] ∧ r.length = data_80c66.length ∧ Kr r) := ⟨data_80c66, a_80c66, b_80c66, limit_80c66, Kr, rfl, h, fun r hl hr => ⟨r, rfl, rfl, hl, hr⟩⟩

theorem ok80c66 : COK Try.prog 80 S80c66 := by
  refine cok80 fun args K0 hS => ?_
  obtain ⟨data_80c66, a_80c66, b_80c66, limit_80c66, K, rfl, h, hK⟩ := hS
  refine ⟨by kernel_rfl, by simp, ?_⟩
  unfold W80c66 at h
  refine AW.sregL [(0, none)] (by kernel_rfl) ?_
  refine l_ds 10 (.one (.d (.bool true))) ?_
  refine l_nil ?_
  refine AW.sregL [(0, none)] (by kernel_rfl) ?_
  refine l_ds 11 (.one (.d (.bool true))) ?_
  refine l_nil ?_
  refine AW.blk ?_
  refine AW.loopL (S := Unit) (fun _ => [(0, .one (.view 900000 0 0 ((List.map TLine.enc data_80c66).length))), (1, .one (.d (.int .i64 a_80c66))), (2, .one (.d (.int .i64 b_80c66))), (3, .one (.d (.int .i64 limit_80c66))), (4, .one (.d (.fn 66 []))), (10, .one (.d (.bool true))), (11, .one (.d (.bool true)))]) (fun _ => [(900000, .pure true 41 7 (List.map TLine.enc data_80c66))]) (fun (s : Unit) N1460 => L80c66_1 b_80c66 a_80c66 data_80c66 K  N1460) (N := fun s => LoopW (fun (s : Unit) N1460 => L80c66_1 b_80c66 a_80c66 data_80c66 K  N1460) s) (Lab.m () [(900000, some 900000)] h) (fun _ h => h) ?_
  rintro _ N1460 h
  have h : L80c66_1 b_80c66 a_80c66 data_80c66 K  N1460 := h
  unfold L80c66_1 at h
  refine AW.blk ?_
  refine AW.sregL [(0, none), (1, none), (2, none), (3, none)] (by kernel_rfl) ?_
  refine l_ds 21 (.one (.d (.int .i64 b_80c66))) ?_
  refine l_ds 22 (.one (.d (.int .i64 a_80c66))) ?_
  refine l_ds 23 (.one (.d (.int .i64 (w64 (b_80c66 - a_80c66))))) ?_
  refine l_ds 12 (.one (.d (.int .i64 (w64 (b_80c66 - a_80c66))))) ?_
  refine l_nil ?_
  refine AW.seq ?_
  refine AW.sregL [(0, none), (1, none)] (by kernel_rfl) ?_
  refine l_ds 24 (.one (.d (.int .i64 (w64 (b_80c66 - a_80c66))))) ?_
  refine l_ds 25 (.one (.d (.bool (decide ((w64 (b_80c66 - a_80c66)) ≤ 12))))) ?_
  refine l_nil ?_
  obtain ⟨h10, h⟩ := h
  refine AW.cond (t := (decide ((w64 (b_80c66 - a_80c66)) ≤ 12))) (by kernel_rfl) (fun he => ?_) (fun he => ?_)
  · refine AW.sregL [(0, none), (1, none), (2, none), (3, none), (4, none)] (by kernel_rfl) ?_
    refine l_ds 26 (.one (.view 900000 0 0 ((List.map TLine.enc data_80c66).length))) ?_
    refine l_ds 27 (.one (.d (.int .i64 a_80c66))) ?_
    refine l_ds 28 (.one (.d (.int .i64 b_80c66))) ?_
    refine l_ds 29 (.one (.d (.fn 66 []))) ?_
    refine l_call ok88c66 en88 (some 30) [.one (.view 900000 0 0 ((List.map TLine.enc data_80c66).length)), .one (.d (.int .i64 a_80c66)), .one (.d (.int .i64 b_80c66)), .one (.d (.fn 66 []))] [true, false, false, false] [.one (.own 41 7 (List.map TLine.enc data_80c66)), .one (.d (.int .i64 a_80c66)), .one (.d (.int .i64 b_80c66)), .one (.d (.fn 66 []))] [] (by kernel_rfl) (ps_own (by kernel_rfl) (by kernel_rfl) rfl (ps_plain (pv_one pf_d) (ps_plain (pv_one pf_d) (ps_plain (pv_one pf_d) ps_nil)))) (by kernel_rfl) (by kernel_rfl) (by kernel_rfl) (cl88c66 data_80c66 a_80c66 b_80c66 h) ?_
    rintro hR _ _ ⟨r1464, rfl, rfl, h12, h⟩
    refine ⟨false, (.tup [], [(900000, 0, .row true 41 7 (dmm (List.map TLine.enc r1464)))]), (fun hz => (by cases hz)), (ret_own (z := false) (by kernel_rfl) (by kernel_rfl) (ob_row (ys := dmm (List.map TLine.enc data_80c66)) (enc := TLine.enc) r1464 (by kernel_rfl) (by rw [List.length_map, List.length_map]; exact h12.symm) (fun _ => rfl))), ?_⟩
    refine l_nil ?_
    refine AW.ret ?_
    refine q_ret ?_
    refine q_bret ?_
    refine q_ret ?_
    refine q_bret ?_
    obtain ⟨h13, h⟩ := h
    exact q_end [] [] [] [List.map TLine.enc r1464] [] (by kernel_rfl) ⟨by kernel_rfl, by kernel_rfl⟩ (by kernel_rfl) (by kernel_rfl) (by kernel_rfl) (b_own (List.map TLine.enc r1464) rfl (by kernel_rfl) (by kernel_rfl) (by simp only [List.length_map]; exact h13)) (Eq.mp (by kernel_rfl) (hK r1464 h13 h)) (.inr rfl)
  · rw [h10] at he; cases he
def r65_0 : List AR := [⟨some 5, .mov (.t 0), [], none⟩,
  ⟨some 6, .lens (.t 5), [0], none⟩,
  ⟨some 4, .mov (.t 6), [1, 0, 1], none⟩]
def r65_1 : List AR := [⟨some 7, .mov (.t 0), [], none⟩,
  ⟨some 8, .mov (.t 4), [], none⟩,
  ⟨some 9, .mov (.t 4), [], none⟩,
  ⟨some 10, .cvi .u64 (.t 9), [2], none⟩,
  ⟨some 11, .call 74 [.t 10], [3], none⟩,
  ⟨some 12, .mov (.t 1), [], none⟩,
  ⟨some 13, .call 80 [.t 7, .c (.int .i64 0), .t 8, .t 11, .t 12], [0, 1, 4, 5, 4], none⟩]
def c65 : ACode := .seq (.reg r65_0 false) (.reg r65_1 false)
theorem body65 : Try.f65.body.map (comp Try.prog 14) = some c65 := by kernel_rfl
theorem res65 : allSome (Try.f65.results.toList.map (compRes Try.prog)) = some [] := by kernel_rfl
theorem cok65 {S : FSpec} (h : ∀ args K, S args K → args.all argOk = true ∧ args.length ≤ 14 ∧ AW Try.prog 14 (some ownP) c65 (initS args) (retPost [] args K)) : COK Try.prog 65 S := of_body Try.func65 Try.ntmps65 body65 res65 h

/-- slices.SortFunc[[]sleuth/estimate.Line,sleuth/estimate.Line] -/
def W65c66 (x_0_65c66 : List TLine) (K : (List TLine) → Prop) : Prop :=
  W74 (IntKind.wrap .u64 (x_0_65c66.length : Int)) fun r924 => W80c66 x_0_65c66 0 (x_0_65c66.length : Int) r924 fun r1465 => r1465.length = x_0_65c66.length ∧ K r1465

def S65c66 : FSpec := fun args K => ∃ (x_0_65c66 : List TLine), ∃ (Kr : (List TLine) → Prop), args = [.one (.own 41 7 (List.map TLine.enc x_0_65c66)), .one (.d (.fn 66 []))] ∧ W65c66 x_0_65c66 Kr ∧ ∀ r, r.length = x_0_65c66.length → Kr r → K (.tup []) [List.map TLine.enc r]

theorem en65 : enters Try.prog 65 = true := by unfold enters; rw [Try.func65]; rfl
theorem cl65c66 (x_0_65c66 : List TLine) {Kr : (List TLine) → Prop} (h : W65c66 x_0_65c66 Kr) : S65c66 [.one (.own 41 7 (List.map TLine.enc x_0_65c66)), .one (.d (.fn 66 []))] (fun rv rows => ∃ r, rv = (.tup []) ∧ rows = [List.map TLine.enc r] ∧ r.length = x_0_65c66.length ∧ Kr r) := ⟨x_0_65c66, Kr, rfl, h, fun r hl hr => ⟨r, rfl, rfl, hl, hr⟩⟩

theorem ok65c66 : COK Try.prog 65 S65c66 := by
  refine cok65 fun args K0 hS => ?_
  obtain ⟨x_0_65c66, K, rfl, h, hK⟩ := hS
  refine ⟨by kernel_rfl, by simp, ?_⟩
  unfold W65c66 at h
  refine AW.sregL [(0, none), (1, none), (2, none)] (by kernel_rfl) ?_
  refine l_ds 5 (.one (.view 900000 0 0 ((List.map TLine.enc x_0_65c66).length))) ?_
  refine l_spec (some 6) (.lens (.t 5)) (.one (.d (.int .i64 (x_0_65c66.length : Int))), []) (by kernel_rfl) (detA_none (d_lens_v (enc := TLine.enc) (o := 900000) (g := 0) x_0_65c66 (by kernel_rfl))) ?_
  refine l_ds 4 (.one (.d (.int .i64 (x_0_65c66.length : Int)))) ?_
  refine l_nil ?_
  refine AW.regL [(0, none), (1, none), (2, none), (3, none), (4, none), (5, none), (6, none)] (by kernel_rfl) ?_
  refine l_ds 7 (.one (.view 900000 0 0 ((List.map TLine.enc x_0_65c66).length))) ?_
  refine l_ds 8 (.one (.d (.int .i64 (x_0_65c66.length : Int)))) ?_
  refine l_ds 9 (.one (.d (.int .i64 (x_0_65c66.length : Int)))) ?_
  refine l_ds 10 (.one (.d (.int .u64 (IntKind.wrap .u64 (x_0_65c66.length : Int))))) ?_
  refine l_call ok74 en74 (some 11) [.one (.d (.int .u64 (IntKind.wrap .u64 (x_0_65c66.length : Int))))] [false] [.one (.d (.int .u64 (IntKind.wrap .u64 (x_0_65c66.length : Int))))] [] (by kernel_rfl) ⟨by kernel_rfl, by kernel_rfl⟩ (by kernel_rfl) (by kernel_rfl) (by kernel_rfl) (cl74 (IntKind.wrap .u64 (x_0_65c66.length : Int)) h) ?_
  rintro hR _ _ ⟨r924, rfl, rfl, h⟩
  refine ⟨false, (.one (.d (.int .i64 r924)), []), (fun hz => (by cases hz)), (ret_R hR (by kernel_rfl)), ?_⟩
  refine l_ds 12 (.one (.d (.fn 66 []))) ?_
  refine l_call ok80c66 en80 (some 13) [.one (.view 900000 0 0 ((List.map TLine.enc x_0_65c66).length)), .one (.d (.int .i64 0)), .one (.d (.int .i64 (x_0_65c66.length : Int))), .one (.d (.int .i64 r924)), .one (.d (.fn 66 []))] [true, false, false, false, false] [.one (.own 41 7 (List.map TLine.enc x_0_65c66)), .one (.d (.int .i64 0)), .one (.d (.int .i64 (x_0_65c66.length : Int))), .one (.d (.int .i64 r924)), .one (.d (.fn 66 []))] [] (by kernel_rfl) (ps_own (by kernel_rfl) (by kernel_rfl) rfl (ps_plain (pv_one pf_d) (ps_plain (pv_one pf_d) (ps_plain (pv_one pf_d) (ps_plain (pv_one pf_d) ps_nil))))) (by kernel_rfl) (by kernel_rfl) (by kernel_rfl) (cl80c66 x_0_65c66 0 (x_0_65c66.length : Int) r924 h) ?_
  rintro hR _ _ ⟨r1465, rfl, rfl, h2, h⟩
  refine ⟨false, (.tup [], [(900000, 0, .row true 41 7 (dmm (List.map TLine.enc r1465)))]), (fun hz => (by cases hz)), (ret_own (z := false) (by kernel_rfl) (by kernel_rfl) (ob_row (ys := dmm (List.map TLine.enc x_0_65c66)) (enc := TLine.enc) r1465 (by kernel_rfl) (by rw [List.length_map, List.length_map]; exact h2.symm) (fun _ => rfl))), ?_⟩
  refine l_nil ?_
  obtain ⟨h3, h⟩ := h
  exact q_end [] [] [] [List.map TLine.enc r1465] [] (by kernel_rfl) ⟨by kernel_rfl, by kernel_rfl⟩ (by kernel_rfl) (by kernel_rfl) (by kernel_rfl) (b_own (List.map TLine.enc r1465) rfl (by kernel_rfl) (by kernel_rfl) (by simp only [List.length_map]; exact h3)) (Eq.mp (by kernel_rfl) (hK r1465 h3 h)) (.inl rfl)
def r40_0 : List AR := [⟨some 2, .mov (.c .nils), [], none⟩]
def r40_1 : List AR := [⟨some 3, .mov (.c .nils), [], none⟩]
def r40_2 : List AR := [⟨some 6, .mov (.t 0), [], none⟩,
  ⟨some 7, .rng (.t 6), [0], none⟩]
def r40_3 : List AR := [⟨some 8, .nxt (.t 7), [], none⟩,
  ⟨some 9, .ext (.t 8) 0, [0], none⟩]
def r40_4 : List AR := [⟨some 10, .ent (.t 7), [], none⟩,
  ⟨some 11, .ext (.t 10) 0, [0], none⟩,
  ⟨some 12, .ext (.t 10) 1, [0], none⟩,
  ⟨some 4, .alloc 39 true [.str ⟨#[]⟩, .str ⟨#[]⟩, .str ⟨#[]⟩], [], none⟩,
  ⟨some 5, .alloc 37 true [.int .i64 0, .int .i64 0, .int .i64 0, .int .i64 0], [], none⟩,
  ⟨none, .st 3 (.t 4) (.t 11), [3, 1, 0, 1, 3, 4], none⟩,
  ⟨none, .st 4 (.t 5) (.t 12), [4, 2, 5, 0, 1, 2, 3, 4, 5], none⟩]
def r40_5 : List AR := [⟨some 13, .mov (.t 3), [], none⟩,
  ⟨some 14, .ld true 3 (.t 4), [], none⟩,
  ⟨some 15, .ld true 4 (.t 5), [], none⟩,
  ⟨some 16, .bld [.str ⟨#[]⟩, .str ⟨#[]⟩, .str ⟨#[]⟩, .int .i64 0, .int .i64 0, .int .i64 0, .int .i64 0] [(0, 3, .t 14), (3, 4, .t 15)], [1, 2], none⟩,
  ⟨some 17, .bsl 41 7 1 [.str ⟨#[]⟩, .str ⟨#[]⟩, .str ⟨#[]⟩, .int .i64 0, .int .i64 0, .int .i64 0, .int .i64 0] [(0, .t 16)], [3], none⟩,
  ⟨some 18, .app 41 7 80 [.str ⟨#[]⟩, .str ⟨#[]⟩, .str ⟨#[]⟩, .int .i64 0, .int .i64 0, .int .i64 0, .int .i64 0] (.t 13) (.t 17), [0, 4], none⟩,
  ⟨some 3, .mov (.t 18), [5, 5, 0, 1, 2, 3, 4, 5], none⟩]
def r40_6 : List AR := [⟨some 19, .mov (.t 3), [], none⟩,
  ⟨some 20, .call 65 [.t 19, .f 66], [0], none⟩]
def r40_7 : List AR := [⟨some 21, .mov (.t 3), [], none⟩,
  ⟨some 2, .mov (.t 21), [0, 0], none⟩]
def c40 : ACode := .seq (.reg r40_0 false) (.seq (.reg r40_1 false) (.seq (.seq (.reg r40_2 false) (.blk 0 (.loop (.seq (.reg r40_3 false) (.seq (.cond (.t 9) (.skip) (.exit 0)) (.blk 1 (.seq (.reg r40_4 false) (.reg r40_5 false)))))))) (.seq (.reg r40_6 false) (.seq (.reg r40_7 false) (.ret)))))
theorem body40 : Try.f40.body.map (comp Try.prog 22) = some c40 := by kernel_rfl
theorem res40 : allSome (Try.f40.results.toList.map (compRes Try.prog)) = some [.s 2] := by kernel_rfl
theorem cok40 {S : FSpec} (h : ∀ args K, S args K → args.all argOk = true ∧ args.length ≤ 22 ∧ AW Try.prog 22 (some ownP) c40 (initS args) (retPost [.s 2] args K)) : COK Try.prog 40 S := of_body Try.func40 Try.ntmps40 body40 res40 h

def L40_1 (K : (List TLine) → Prop) (v909 : List TLine) (v910 : List (TGroup × TTotal)) (N913 : ((List TLine) × (List (TGroup × TTotal))) → Prop) : Prop :=
  (v910 = [] → W65c66 v909 fun r1467 => K r1467) ∧ (∀ j1468 e1469, v910[j1468]? = some e1469 → Fits ((v909 ++ [(TLine.mk e1469.1 e1469.2)]).length * 80) (N913 ((v909 ++ [(TLine.mk e1469.1 e1469.2)]), (List.eraseIdx v910 j1468))))

/-- sleuth/estimate.lines -/
def W40 (totals_40 : List (TGroup × TTotal)) (K : (List TLine) → Prop) : Prop :=
  LoopW (fun (s : ((List TLine) × (List (TGroup × TTotal)))) N913 => L40_1 K s.1 s.2 N913) ([], totals_40)

def S40 : FSpec := fun args K => ∃ (totals_40 : List (TGroup × TTotal)), ∃ (Kr : (List TLine) → Prop), args = [.one (.d (.mp true true (enc2 TGroup.enc TTotal.enc totals_40)))] ∧ W40 totals_40 Kr ∧ ∀ r, Kr r → K (.one (.own 41 7 (List.map TLine.enc r))) []

theorem en40 : enters Try.prog 40 = true := by unfold enters; rw [Try.func40]; rfl
theorem cl40 (totals_40 : List (TGroup × TTotal)) {Kr : (List TLine) → Prop} (h : W40 totals_40 Kr) : S40 [.one (.d (.mp true true (enc2 TGroup.enc TTotal.enc totals_40)))] (fun rv rows => ∃ r, rv = (.one (.own 41 7 (List.map TLine.enc r))) ∧ rows = [] ∧ Kr r) := ⟨totals_40, Kr, rfl, h, fun r hr => ⟨r, rfl, rfl, hr⟩⟩

theorem ok40 : COK Try.prog 40 S40 := by
  refine cok40 fun args K0 hS => ?_
  obtain ⟨totals_40, K, rfl, h, hK⟩ := hS
  refine ⟨by kernel_rfl, by simp, ?_⟩
  unfold W40 at h
  refine AW.sregL [(0, none)] (by kernel_rfl) ?_
  refine l_ds 2 (.one (.nils)) ?_
  refine l_nil ?_
  refine AW.sregL [(0, none)] (by kernel_rfl) ?_
  refine l_ds 3 (.one (.nils)) ?_
  refine l_nil ?_
  refine AW.seq ?_
  refine AW.sregL [(0, none), (1, none)] (by kernel_rfl) ?_
  refine l_ds 6 (.one (.d (.mp true true (enc2 TGroup.enc TTotal.enc totals_40)))) ?_
  refine l_spec (some 7) (.rng (.t 6)) (.one (.itr 7 1), [(7, 1, .iter true true (enc2 TGroup.enc TTotal.enc totals_40) none)]) (by kernel_rfl) (detA_none (d_rng (ek := TGroup.enc) (ev := TTotal.enc) totals_40 (by kernel_rfl))) ?_
  refine l_nil ?_
  refine AW.blk ?_
  refine AW.loopL (S := ((List TLine) × (List (TGroup × TTotal)))) (fun s => (fun (v909 : List TLine) (v910 : List (TGroup × TTotal)) => [(3, .one (.view 200001 0 0 ((List.map TLine.enc v909).length))), (7, .one (.itr 200002 0))]) s.1 s.2) (fun s => (fun (v909 : List TLine) (v910 : List (TGroup × TTotal)) => [(200001, .pure true 41 7 (List.map TLine.enc v909)), (200002, .iter true true (enc2 TGroup.enc TTotal.enc v910))]) s.1 s.2) (fun (s : ((List TLine) × (List (TGroup × TTotal)))) N913 => L40_1 K s.1 s.2 N913) (N := fun s => LoopW (fun (s : ((List TLine) × (List (TGroup × TTotal)))) N913 => L40_1 K s.1 s.2 N913) s) (Lab.m ([], totals_40) [(200001, none), (200002, some 7)] h) (fun _ h => h) ?_
  rintro ⟨v909, v910⟩ N913 h
  have h : L40_1 K v909 v910 N913 := h
  unfold L40_1 at h
  refine AW.sregL [(0, none), (1, none)] (by kernel_rfl) ?_
  refine l_nxt (cur := none) (ek := TGroup.enc) (ev := TTotal.enc) (A := True) (B := True) (some 8) (.t 7) 200002 0 true true v910 ⟨by kernel_rfl, by kernel_rfl, by kernel_rfl⟩ (by kernel_rfl) (by kernel_rfl) (by kernel_rfl) (fun h20 => ?_) (fun j1468 e1469 h18 => ?_)
  · have h := h.1 h20
    refine l_ds 9 (.one (.d (.bool false))) ?_
    refine l_nil ?_
    refine AW.seq ?_
    refine AW.condF (by kernel_rfl) ?_
    refine AW.exit ?_
    refine q_exit ?_
    refine q_exit ?_
    refine q_bhere ?_
    refine q_fall ?_
    refine AW.sregL [(0, none), (1, none)] (by kernel_rfl) ?_
    refine l_ds 19 (.one (.view 200001 0 0 ((List.map TLine.enc v909).length))) ?_
    refine l_call ok65c66 en65 (some 20) [.one (.view 200001 0 0 ((List.map TLine.enc v909).length)), .one (.fn 66 [])] [true, false] [.one (.own 41 7 (List.map TLine.enc v909)), .one (.d (.fn 66 []))] [] (by kernel_rfl) (ps_own (by kernel_rfl) (by kernel_rfl) rfl (ps_plain (pv_one (pk (.fn 66 []) [] (by kernel_rfl) (by kernel_rfl))) ps_nil)) (by kernel_rfl) (by kernel_rfl) (by kernel_rfl) (cl65c66 v909 h) ?_
    rintro hR _ _ ⟨r1467, rfl, rfl, h17, h⟩
    refine ⟨false, (.tup [], [(200001, 0, .row true 41 7 (dmm (List.map TLine.enc r1467)))]), (fun hz => (by cases hz)), (ret_own (z := false) (by kernel_rfl) (by kernel_rfl) (ob_row (ys := dmm (List.map TLine.enc v909)) (enc := TLine.enc) r1467 (by kernel_rfl) (by rw [List.length_map, List.length_map]; exact h17.symm) (fun _ => rfl))), ?_⟩
    refine l_renorm 3 (.one (.view 200001 0 0 ((List.map TLine.enc r1467).length))) (Eq.trans (b := .one (.view 200001 0 0 ((List.map TLine.enc v909).length))) (by kernel_rfl) (by simp only [List.length_map, List.length_set, List.length_cons, List.length_nil, h17])) ?_
    refine l_nil ?_
    refine AW.sregL [(0, none), (1, none)] (by kernel_rfl) ?_
    refine l_ds 21 (.one (.view 200001 0 0 ((List.map TLine.enc r1467).length))) ?_
    refine l_ds 2 (.one (.view 200001 0 0 ((List.map TLine.enc r1467).length))) ?_
    refine l_nil ?_
    refine AW.ret ?_
    exact q_end [.one (.view 200001 0 0 ((List.map TLine.enc r1467).length))] [true] [.one (.own 41 7 (List.map TLine.enc r1467))] [] [] (by kernel_rfl) (ps_own (by kernel_rfl) (by kernel_rfl) rfl ps_nil) (by kernel_rfl) (by kernel_rfl) (by kernel_rfl) (by kernel_rfl) (Eq.mp (by kernel_rfl) (hK r1467 h)) (.inr rfl)
  · have h := h.2 j1468 e1469 h18
    refine l_ds 9 (.one (.d (.bool true))) ?_
    refine l_nil ?_
    refine AW.seq ?_
    refine AW.condT (by kernel_rfl) ?_
    refine AW.skip ?_
    refine q_fall ?_
    refine AW.blk ?_
    refine AW.sregL [(0, none), (1, none), (2, none), (3, none), (4, none), (5, none), (6, none)] (by kernel_rfl) ?_
    refine l_ds 10 (.tup [.agg [.d (.str e1469.1.service), .d (.str e1469.1.version), .d (.str e1469.1.operation)], .agg [.d (.int .i64 e1469.2.spans), .d (.int .i64 e1469.2.errors), .d (.int .i64 e1469.2.duration), .d (.int .i64 e1469.2.traces)]]) ?_
    refine l_ds 11 (.agg [.d (.str e1469.1.service), .d (.str e1469.1.version), .d (.str e1469.1.operation)]) ?_
    refine l_ds 12 (.agg [.d (.int .i64 e1469.2.spans), .d (.int .i64 e1469.2.errors), .d (.int .i64 e1469.2.duration), .d (.int .i64 e1469.2.traces)]) ?_
    refine l_det (some 4) (.one (.ref 4 1 0 0), [(4, 1, .row true 39 3 [[.d (.str (⟨#[]⟩ : ByteArray)), .d (.str (⟨#[]⟩ : ByteArray)), .d (.str (⟨#[]⟩ : ByteArray))]])]) (by kernel_rfl) ?_
    refine l_det (some 5) (.one (.ref 5 1 0 0), [(5, 1, .row true 37 4 [[.d (.int .i64 0), .d (.int .i64 0), .d (.int .i64 0), .d (.int .i64 0)]])]) (by kernel_rfl) ?_
    refine l_det none (.tup [], [(4, 1, .row true 39 3 [[.d (.str e1469.1.service), .d (.str e1469.1.version), .d (.str e1469.1.operation)]])]) (by kernel_rfl) ?_
    refine l_det none (.tup [], [(5, 1, .row true 37 4 [[.d (.int .i64 e1469.2.spans), .d (.int .i64 e1469.2.errors), .d (.int .i64 e1469.2.duration), .d (.int .i64 e1469.2.traces)]])]) (by kernel_rfl) ?_
    refine l_nil ?_
    refine AW.regL [(0, none), (1, none), (2, none), (3, none), (4, none), (5, none), (6, none)] (by kernel_rfl) ?_
    refine l_ds 13 (.one (.view 200001 0 0 ((List.map TLine.enc v909).length))) ?_
    refine l_ds 14 (.agg [.d (.str e1469.1.service), .d (.str e1469.1.version), .d (.str e1469.1.operation)]) ?_
    refine l_ds 15 (.agg [.d (.int .i64 e1469.2.spans), .d (.int .i64 e1469.2.errors), .d (.int .i64 e1469.2.duration), .d (.int .i64 e1469.2.traces)]) ?_
    refine l_ds 16 (.agg [.d (.str e1469.1.service), .d (.str e1469.1.version), .d (.str e1469.1.operation), .d (.int .i64 e1469.2.spans), .d (.int .i64 e1469.2.errors), .d (.int .i64 e1469.2.duration), .d (.int .i64 e1469.2.traces)]) ?_
    refine l_det (some 17) (.one (.view 17 1 0 1), [(17, 1, .row true 41 7 [[.d (.str e1469.1.service), .d (.str e1469.1.version), .d (.str e1469.1.operation), .d (.int .i64 e1469.2.spans), .d (.int .i64 e1469.2.errors), .d (.int .i64 e1469.2.duration), .d (.int .i64 e1469.2.traces)]])]) (by kernel_rfl) ?_
    obtain ⟨h19, h⟩ := h
    refine l_spec (some 18) (.app 41 7 80 [.str ⟨#[]⟩, .str ⟨#[]⟩, .str ⟨#[]⟩, .int .i64 0, .int .i64 0, .int .i64 0, .int .i64 0] (.t 13) (.t 17)) (.one (.view 200001 1 0 ((List.map TLine.enc (v909 ++ [(TLine.mk e1469.1 e1469.2)])).length)), [(200001, 1, .row true 41 7 (dmm (List.map TLine.enc (v909 ++ [(TLine.mk e1469.1 e1469.2)]))))]) (by kernel_rfl) (detA_none (d_app_v (enc := TLine.enc) (xc := .view 17 1 0 1) v909 [(TLine.mk e1469.1 e1469.2)] (by kernel_rfl) (by kernel_rfl) (by kernel_rfl) (by kernel_rfl) (by kernel_rfl) h19 (by kernel_rfl))) ?_
    refine l_ds 3 (.one (.view 200001 1 0 ((List.map TLine.enc (v909 ++ [(TLine.mk e1469.1 e1469.2)])).length))) ?_
    refine l_nil ?_
    refine q_bfall ?_
    refine q_fall ?_
    exact Lab.m ((v909 ++ [(TLine.mk e1469.1 e1469.2)]), (List.eraseIdx v910 j1468)) [(200001, some 200001), (200002, some 200002)] h
def r14_0 : List AR := [⟨some 4, .mov (.c .nils), [], none⟩,
  ⟨some 5, .mov (.c (.int .i64 0)), [0], none⟩]
def r14_1 : List AR := [⟨some 17, .mov (.t 1), [], none⟩,
  ⟨some 18, .call 37 [.t 17], [0], none⟩,
  ⟨some 16, .mov (.t 18), [1], none⟩,
  ⟨some 19, .ext (.t 16) 0, [2], none⟩,
  ⟨some 20, .ext (.t 16) 1, [2], none⟩,
  ⟨some 6, .mov (.t 19), [3, 1, 0, 1, 2, 3], none⟩,
  ⟨some 7, .mov (.t 20), [4, 5, 0, 1, 2, 3, 4, 5], none⟩]
def r14_2 : List AR := [⟨some 21, .mov (.t 7), [], none⟩,
  ⟨some 22, .un .not (.t 21), [0], none⟩]
def r14_3 : List AR := [⟨some 4, .mov (.c .nils), [], none⟩,
  ⟨some 5, .mov (.c (.int .i64 12)), [0, 0], none⟩]
def r14_4 : List AR := [⟨some 23, .mkm none, [], none⟩,
  ⟨some 8, .mov (.t 23), [0, 0], none⟩]
def r14_5 : List AR := [⟨some 24, .mov (.t 0), [], none⟩,
  ⟨some 25, .lens (.t 24), [0], none⟩,
  ⟨some 26, .mov (.c (.int .i64 0)), [], none⟩]
def r14_6 : List AR := [⟨some 27, .bin .lss (.t 26) (.t 25), [], none⟩]
def r14_7 : List AR := [⟨some 28, .iad 3 (.t 24) (.t 26), [], none⟩,
  ⟨some 29, .ld true 3 (.t 28), [0], none⟩,
  ⟨some 10, .alloc 53 true [.int .i64 0, .int .i64 0, .nils], [], none⟩,
  ⟨none, .st 3 (.t 10) (.t 29), [2, 1, 0, 1, 2], none⟩]
def r14_8 : List AR := [⟨some 30, .mkm none, [], none⟩,
  ⟨some 11, .mov (.t 30), [0, 0], none⟩]
def r14_9 : List AR := [⟨some 31, .fad (.t 10) 2, [], none⟩,
  ⟨some 32, .ld false 1 (.t 31), [0], none⟩,
  ⟨some 33, .lens (.t 32), [1], none⟩,
  ⟨some 34, .mov (.c (.int .i64 0)), [], none⟩]
def r14_10 : List AR := [⟨some 35, .bin .lss (.t 34) (.t 33), [], none⟩]
def r14_11 : List AR := [⟨some 36, .iad 14 (.t 32) (.t 34), [], none⟩,
  ⟨some 37, .ld true 14 (.t 36), [0], none⟩,
  ⟨some 13, .alloc 58 true [.int .i64 0, .int .i64 0, .int .i64 0, .int .i64 0, .int .i64 0, .int .i64 0, .str ⟨#[]⟩, .str ⟨#[]⟩, .str ⟨#[]⟩, .int .i64 0, .int .i64 0, .bool false, .nils, .nils], [], none⟩,
  ⟨none, .st 14 (.t 13) (.t 37), [2, 1, 0, 1, 2], none⟩]
def r14_12 : List AR := [⟨some 38, .mov (.t 6), [], none⟩,
  ⟨some 39, .ld true 14 (.t 13), [], none⟩,
  ⟨some 40, .callv (.t 38) [.t 39], [0, 1], none⟩,
  ⟨some 14, .alloc 39 true [.str ⟨#[]⟩, .str ⟨#[]⟩, .str ⟨#[]⟩], [], none⟩,
  ⟨none, .st 3 (.t 14) (.t 40), [3, 2, 2, 0, 1, 2, 3], none⟩]
def r14_13 : List AR := [⟨some 41, .fad (.t 10) 1, [], none⟩,
  ⟨some 42, .ld false 1 (.t 41), [0], none⟩,
  ⟨some 43, .fad (.t 10) 1, [], none⟩,
  ⟨some 44, .ld false 1 (.t 43), [2], none⟩,
  ⟨some 45, .ld true 14 (.t 13), [], none⟩,
  ⟨some 46, .call 38 [.t 45], [4], none⟩,
  ⟨some 47, .bin .mul (.t 44) (.t 46), [3, 5], none⟩,
  ⟨some 48, .bld [.int .i64 0, .int .i64 0, .int .i64 0, .int .i64 0] [(0, 1, .t 42), (2, 1, .t 47)], [1, 6], none⟩,
  ⟨some 15, .alloc 37 true [.int .i64 0, .int .i64 0, .int .i64 0, .int .i64 0], [], none⟩,
  ⟨none, .st 4 (.t 15) (.t 48), [8, 7, 5, 0, 1, 2, 3, 4, 5, 6, 7, 8], none⟩]
def r14_14 : List AR := [⟨some 49, .fad (.t 13) 11, [], none⟩,
  ⟨some 50, .ld false 1 (.t 49), [0], none⟩]
def r14_15 : List AR := [⟨some 51, .fad (.t 10) 1, [], none⟩,
  ⟨some 52, .ld false 1 (.t 51), [0], none⟩,
  ⟨some 53, .fad (.t 15) 1, [0, 1], none⟩,
  ⟨none, .st 1 (.t 53) (.t 52), [2, 1, 0, 1], none⟩]
def r14_16 : List AR := [⟨some 54, .mov (.t 11), [], none⟩,
  ⟨some 55, .ld true 3 (.t 14), [], none⟩,
  ⟨some 56, .lkp [.s, .s, .s] true false [.bool false] (.t 54) (.t 55) false, [0, 1], none⟩,
  ⟨some 57, .un .not (.t 56), [2], none⟩]
def r14_17 : List AR := [⟨some 58, .mov (.t 11), [], none⟩,
  ⟨some 59, .ld true 3 (.t 14), [], none⟩,
  ⟨some 60, .fad (.t 10) 1, [], none⟩,
  ⟨some 61, .ld false 1 (.t 60), [2], none⟩,
  ⟨none, .mup [.s, .s, .s] true (.t 58) (.t 59) (.c (.bool true)), [0, 1, 0, 1], none⟩,
  ⟨some 62, .fad (.t 15) 3, [0, 1, 2, 3, 4], none⟩,
  ⟨none, .st 1 (.t 62) (.t 61), [5, 3, 4, 0, 1, 2, 3, 4], none⟩]
def r14_18 : List AR := [⟨some 63, .mov (.t 8), [], none⟩,
  ⟨some 64, .ld true 3 (.t 14), [], none⟩,
  ⟨some 65, .mov (.t 8), [], none⟩,
  ⟨some 66, .ld true 3 (.t 14), [], none⟩,
  ⟨some 67, .lkp [.s, .s, .s] true true [.int .i64 0, .int .i64 0, .int .i64 0, .int .i64 0] (.t 65) (.t 66) false, [2, 3], none⟩,
  ⟨some 68, .ld true 4 (.t 15), [], none⟩,
  ⟨some 69, .call 39 [.t 67, .t 68], [4, 5], none⟩,
  ⟨none, .mup [.s, .s, .s] true (.t 63) (.t 64) (.t 69), [0, 1, 6, 6, 0, 1, 2, 3, 4, 5, 6], none⟩]
def r14_19 : List AR := [⟨some 70, .bin .add (.t 34) (.c (.int .i64 1)), [], none⟩,
  ⟨some 34, .mov (.t 70), [0], none⟩]
def r14_20 : List AR := [⟨some 71, .bin .add (.t 26) (.c (.int .i64 1)), [], none⟩,
  ⟨some 26, .mov (.t 71), [0], none⟩]
def r14_21 : List AR := [⟨some 72, .mov (.t 8), [], none⟩,
  ⟨some 73, .call 40 [.t 72], [0], none⟩,
  ⟨some 4, .mov (.t 73), [1, 1, 0, 1], none⟩,
  ⟨some 5, .mov (.c (.int .i64 0)), [2, 0, 1, 2], none⟩]
def c14 : ACode := .seq (.reg r14_0 false) (.seq (.reg r14_1 false) (.seq (.seq (.reg r14_2 false) (.cond (.t 22) (.seq (.reg r14_3 false) (.ret)) (.skip))) (.seq (.reg r14_4 false) (.seq (.seq (.reg r14_5 false) (.blk 0 (.loop (.seq (.reg r14_6 false) (.seq (.cond (.t 27) (.skip) (.exit 0)) (.seq (.blk 1 (.seq (.reg r14_7 false) (.seq (.reg r14_8 false) (.seq (.reg r14_9 false) (.blk 2 (.loop (.seq (.reg r14_10 false) (.seq (.cond (.t 35) (.skip) (.exit 2)) (.seq (.blk 3 (.seq (.reg r14_11 false) (.seq (.reg r14_12 false) (.seq (.reg r14_13 true) (.seq (.seq (.reg r14_14 false) (.cond (.t 50) (.reg r14_15 false) (.skip))) (.seq (.seq (.reg r14_16 false) (.cond (.t 57) (.reg r14_17 true) (.skip))) (.reg r14_18 true))))))) (.reg r14_19 false)))))))))) (.reg r14_20 false))))))) (.seq (.reg r14_21 false) (.ret))))))
theorem body14 : Try.f14.body.map (comp Try.prog 74) = some c14 := by kernel_rfl
theorem res14 : allSome (Try.f14.results.toList.map (compRes Try.prog)) = some [.s 4, .s 5] := by kernel_rfl
theorem cok14 {S : FSpec} (h : ∀ args K, S args K → args.all argOk = true ∧ args.length ≤ 74 ∧ AW Try.prog 74 (some ownP) c14 (initS args) (retPost [.s 4, .s 5] args K)) : COK Try.prog 14 S := of_body Try.func14 Try.ntmps14 body14 res14 h

def J14_4 (r890 : TGroup) (v846 : List (TGroup × TTotal)) (x825 : TTrace) (v893 : Int) (r892 : Int) (N873 : ((List (TGroup × TTotal)) × (List (TGroup × Bool)) × Int) → Prop) (v848 : Int) (v894 : List (TGroup × Bool)) (v895 : Int) : Prop :=
  W39 (TTotal.mk (((alGet r890 v846).getD (TTotal.mk 0 0 0 0)).spans) (((alGet r890 v846).getD (TTotal.mk 0 0 0 0)).errors) (((alGet r890 v846).getD (TTotal.mk 0 0 0 0)).duration) (((alGet r890 v846).getD (TTotal.mk 0 0 0 0)).traces)) (TTotal.mk x825.weight v893 (w64 (x825.weight * r892)) v895) fun r896 => N873 ((alPut r890 r896 v846), v894, (w64 (v848 + 1)))

def J14_3 (r890 : TGroup) (v847 : List (TGroup × Bool)) (v846 : List (TGroup × TTotal)) (x825 : TTrace) (r892 : Int) (N873 : ((List (TGroup × TTotal)) × (List (TGroup × Bool)) × Int) → Prop) (v848 : Int) (v893 : Int) : Prop :=
  Cond (!((alGet r890 v847).getD false)) (J14_4 r890 v846 x825 v893 r892 N873 v848 (alPut r890 true v847) x825.weight) (J14_4 r890 v846 x825 v893 r892 N873 v848 v847 0)

def L14_2 (x825 : TTrace) (r3 : (C × Bool)) (N749 : ((List (TGroup × TTotal)) × Int) → Prop) (v600 : Int) (v846 : List (TGroup × TTotal)) (v847 : List (TGroup × Bool)) (v848 : Int) (N873 : ((List (TGroup × TTotal)) × (List (TGroup × Bool)) × Int) → Prop) : Prop :=
  Cond (decide (v848 < (x825.spans.length : Int))) (Idx x825.spans v848 fun x887 => ∃ KK897, ((r3.1 = .fn 62 [] ∧ W62 x887 KK897) ∨ (r3.1 = .fn 63 [] ∧ W63 x887 KK897) ∨ (r3.1 = .fn 64 [] ∧ W64 x887 KK897)) ∧ ∀ r890, KK897 r890 → W38 x887 fun r892 => Cond x887.error (J14_3 r890 v847 v846 x825 r892 N873 v848 x825.weight) (J14_3 r890 v847 v846 x825 r892 N873 v848 0)) (N749 (v846, (w64 (v600 + 1))))

def L14_1 (l_14 : List TTrace) (r3 : (C × Bool)) (K : ((List TLine) × Int) → Prop) (v599 : List (TGroup × TTotal)) (v600 : Int) (N749 : ((List (TGroup × TTotal)) × Int) → Prop) : Prop :=
  Cond (decide (v600 < (l_14.length : Int))) (Idx l_14 v600 fun x825 => LoopW (fun (s : ((List (TGroup × TTotal)) × (List (TGroup × Bool)) × Int)) N873 => L14_2 x825 r3 N749 v600 s.1 s.2.1 s.2.2 N873) (v599, [], 0)) (W40 v599 fun r1471 => K (r1471, 0))

/-- sleuth/estimate.By -/
def W14 (l_14 : List TTrace) (level_14 : Int) (K : ((List TLine) × Int) → Prop) : Prop :=
  W37 level_14 fun r3 => Cond (!r3.2) (K ([], 12)) (LoopW (fun (s : ((List (TGroup × TTotal)) × Int)) N749 => L14_1 l_14 r3 K s.1 s.2 N749) ([], 0))

def S14 : FSpec := fun args K => ∃ (l_14 : List TTrace), ∃ (level_14 : Int), ∃ (Kr : ((List TLine) × Int) → Prop), args = [.one (.d (.sl (List.map TTrace.enc l_14))), .one (.d (.int .i64 level_14))] ∧ W14 l_14 level_14 Kr ∧ ∀ r, Kr r → K (.tup [.one (.own 41 7 (List.map TLine.enc r.1)), .one (.d (.int .i64 r.2))]) []

theorem en14 : enters Try.prog 14 = true := by unfold enters; rw [Try.func14]; rfl
theorem cl14 (l_14 : List TTrace) (level_14 : Int) {Kr : ((List TLine) × Int) → Prop} (h : W14 l_14 level_14 Kr) : S14 [.one (.d (.sl (List.map TTrace.enc l_14))), .one (.d (.int .i64 level_14))] (fun rv rows => ∃ r, rv = (.tup [.one (.own 41 7 (List.map TLine.enc r.1)), .one (.d (.int .i64 r.2))]) ∧ rows = [] ∧ Kr r) := ⟨l_14, level_14, Kr, rfl, h, fun r hr => ⟨r, rfl, rfl, hr⟩⟩

theorem ok14 : COK Try.prog 14 S14 := by
  refine cok14 fun args K0 hS => ?_
  obtain ⟨l_14, level_14, K, rfl, h, hK⟩ := hS
  refine ⟨by kernel_rfl, by simp, ?_⟩
  unfold W14 at h
  refine AW.sregL [(0, none), (1, none)] (by kernel_rfl) ?_
  refine l_ds 4 (.one (.nils)) ?_
  refine l_ds 5 (.one (.d (.int .i64 0))) ?_
  refine l_nil ?_
  refine AW.sregL [(0, none), (1, none), (2, none), (3, none), (4, none), (5, none), (6, none)] (by kernel_rfl) ?_
  refine l_ds 17 (.one (.d (.int .i64 level_14))) ?_
  refine l_call ok37 en37 (some 18) [.one (.d (.int .i64 level_14))] [false] [.one (.d (.int .i64 level_14))] [] (by kernel_rfl) ⟨by kernel_rfl, by kernel_rfl⟩ (by kernel_rfl) (by kernel_rfl) (by kernel_rfl) (cl37 level_14 h) ?_
  rintro hR _ _ ⟨r3, rfl, rfl, h⟩
  refine ⟨false, (.tup [.one (.d r3.1), .one (.d (.bool r3.2))], []), (fun hz => (by cases hz)), (ret_R hR (by kernel_rfl)), ?_⟩
  refine l_ds 16 (.tup [.one (.d r3.1), .one (.d (.bool r3.2))]) ?_
  refine l_ds 19 (.one (.d r3.1)) ?_
  refine l_ds 20 (.one (.d (.bool r3.2))) ?_
  refine l_ds 6 (.one (.d r3.1)) ?_
  refine l_ds 7 (.one (.d (.bool r3.2))) ?_
  refine l_nil ?_
  refine AW.seq ?_
  refine AW.sregL [(0, none), (1, none)] (by kernel_rfl) ?_
  refine l_ds 21 (.one (.d (.bool r3.2))) ?_
  refine l_ds 22 (.one (.d (.bool (!r3.2)))) ?_
  refine l_nil ?_
  refine AW.cond' (by kernel_rfl) h (fun h => ?_) (fun h => ?_)
  · refine AW.sregL [(0, none), (1, none)] (by kernel_rfl) ?_
    refine l_ds 4 (.one (.nils)) ?_
    refine l_ds 5 (.one (.d (.int .i64 12))) ?_
    refine l_nil ?_
    refine AW.sim (F := [(299999, none)]) (T := [(4, .one (.view 299999 0 0 ((List.map TLine.enc []).length))), (5, .one (.d (.int .i64 12)))]) (O := [(299999, .pure true 41 7 (List.map TLine.enc []))]) ⟨by kernel_rfl, by kernel_rfl, by kernel_rfl, by kernel_rfl⟩ ?_
    refine AW.ret ?_
    refine q_ret ?_
    exact q_end [.one (.view 299999 0 0 ((List.map TLine.enc []).length)), .one (.d (.int .i64 12))] [true, false] [.one (.own 41 7 (List.map TLine.enc [])), .one (.d (.int .i64 12))] [] [] (by kernel_rfl) (ps_own (by kernel_rfl) (by kernel_rfl) rfl (ps_plain (pv_one pf_d) ps_nil)) (by kernel_rfl) (by kernel_rfl) (by kernel_rfl) (by kernel_rfl) (Eq.mp (by kernel_rfl) (hK ([], 12) h)) (.inr rfl)
  · refine AW.skip ?_
    refine q_fall ?_
    refine AW.sregL [(0, none), (1, none)] (by kernel_rfl) ?_
    refine l_det (some 23) (.one (.mpr 23 1), [(23, 1, .map true false false [])]) (by kernel_rfl) ?_
    refine l_ds 8 (.one (.mpr 23 1)) ?_
    refine l_nil ?_
    refine AW.seq ?_
    refine AW.sregL [(0, none), (1, none), (2, none)] (by kernel_rfl) ?_
    refine l_ds 24 (.one (.d (.sl (List.map TTrace.enc l_14)))) ?_
    refine l_spec (some 25) (.lens (.t 24)) (.one (.d (.int .i64 (l_14.length : Int))), []) (by kernel_rfl) (detA_none (d_lens_sl (enc := TTrace.enc) l_14 (by kernel_rfl))) ?_
    refine l_ds 26 (.one (.d (.int .i64 0))) ?_
    refine l_nil ?_
    refine AW.blk ?_
    refine AW.loopL (S := ((List (TGroup × TTotal)) × Int)) (fun s => (fun (v599 : List (TGroup × TTotal)) (v600 : Int) => [(6, .one (.d r3.1)), (8, .one (.mpr 200001 0)), (24, .one (.d (.sl (List.map TTrace.enc l_14)))), (25, .one (.d (.int .i64 (l_14.length : Int)))), (26, .one (.d (.int .i64 v600)))]) s.1 s.2) (fun s => (fun (v599 : List (TGroup × TTotal)) (v600 : Int) => [(200001, .map true true true (enc2 TGroup.enc TTotal.enc v599))]) s.1 s.2) (fun (s : ((List (TGroup × TTotal)) × Int)) N749 => L14_1 l_14 r3 K s.1 s.2 N749) (N := fun s => LoopW (fun (s : ((List (TGroup × TTotal)) × Int)) N749 => L14_1 l_14 r3 K s.1 s.2 N749) s) (Lab.m ([], 0) [(200001, some 23)] h) (fun _ h => h) ?_
    rintro ⟨v599, v600⟩ N749 h
    have h : L14_1 l_14 r3 K v599 v600 N749 := h
    unfold L14_1 at h
    refine AW.sregL [(0, none)] (by kernel_rfl) ?_
    refine l_ds 27 (.one (.d (.bool (decide (v600 < (l_14.length : Int)))))) ?_
    refine l_nil ?_
    refine AW.seq ?_
    refine AW.cond' (by kernel_rfl) h (fun h => ?_) (fun h => ?_)
    · refine AW.skip ?_
      refine q_fall ?_
      refine AW.seq ?_
      refine AW.blk ?_
      refine AW.sregL [(0, none), (1, none), (2, none), (3, none)] (by kernel_rfl) ?_
      obtain ⟨h775, x825, h776, h⟩ := h
      refine l_spec (some 28) (.iad 3 (.t 24) (.t 26)) (.one (.d (.ptr [.int .i64 x825.id, .int .i64 x825.weight, .sl (List.map TSpan.enc x825.spans)])), []) (by kernel_rfl) (detA_none (d_iad_sl (enc := TTrace.enc) (k := .i64) l_14 x825 (by kernel_rfl) (by kernel_rfl) h775 h776 rfl)) ?_
      refine l_ds 29 (.agg [.d (.int .i64 x825.id), .d (.int .i64 x825.weight), .d (.sl (List.map TSpan.enc x825.spans))]) ?_
      refine l_det (some 10) (.one (.ref 10 1 0 0), [(10, 1, .row true 53 3 [[.d (.int .i64 0), .d (.int .i64 0), .nils]])]) (by kernel_rfl) ?_
      refine l_det none (.tup [], [(10, 1, .row true 53 3 [[.d (.int .i64 x825.id), .d (.int .i64 x825.weight), .d (.sl (List.map TSpan.enc x825.spans))]])]) (by kernel_rfl) ?_
      refine l_nil ?_
      refine AW.sregL [(0, none), (1, none)] (by kernel_rfl) ?_
      refine l_det (some 30) (.one (.mpr 30 1), [(30, 1, .map true false false [])]) (by kernel_rfl) ?_
      refine l_ds 11 (.one (.mpr 30 1)) ?_
      refine l_nil ?_
      refine AW.sregL [(0, none), (1, none), (2, none), (3, none)] (by kernel_rfl) ?_
      refine l_ds 31 (.one (.ref 10 1 0 2)) ?_
      refine l_ds 32 (.one (.d (.sl (List.map TSpan.enc x825.spans)))) ?_
      refine l_spec (some 33) (.lens (.t 32)) (.one (.d (.int .i64 (x825.spans.length : Int))), []) (by kernel_rfl) (detA_none (d_lens_sl (enc := TSpan.enc) x825.spans (by kernel_rfl))) ?_
      refine l_ds 34 (.one (.d (.int .i64 0))) ?_
      refine l_nil ?_
      refine AW.blk ?_
      refine AW.loopL (S := ((List (TGroup × TTotal)) × (List (TGroup × Bool)) × Int)) (fun s => (fun (v846 : List (TGroup × TTotal)) (v847 : List (TGroup × Bool)) (v848 : Int) => [(6, .one (.d r3.1)), (8, .one (.mpr 200001 0)), (10, .one (.ref 200002 0 0 0)), (11, .one (.mpr 200003 0)), (24, .one (.d (.sl (List.map TTrace.enc l_14)))), (25, .one (.d (.int .i64 (l_14.length : Int)))), (26, .one (.d (.int .i64 v600))), (32, .one (.d (.sl (List.map TSpan.enc x825.spans)))), (33, .one (.d (.int .i64 (x825.spans.length : Int)))), (34, .one (.d (.int .i64 v848)))]) s.1 s.2.1 s.2.2) (fun s => (fun (v846 : List (TGroup × TTotal)) (v847 : List (TGroup × Bool)) (v848 : Int) => [(200001, .map true true true (enc2 TGroup.enc TTotal.enc v846)), (200002, .expl true 53 3 [[.d (.int .i64 x825.id), .d (.int .i64 x825.weight), .d (.sl (List.map TSpan.enc x825.spans))]]), (200003, .map true true false (enc2 TGroup.enc eBool v847))]) s.1 s.2.1 s.2.2) (fun (s : ((List (TGroup × TTotal)) × (List (TGroup × Bool)) × Int)) N873 => L14_2 x825 r3 N749 v600 s.1 s.2.1 s.2.2 N873) (N := fun s => LoopW (fun (s : ((List (TGroup × TTotal)) × (List (TGroup × Bool)) × Int)) N873 => L14_2 x825 r3 N749 v600 s.1 s.2.1 s.2.2 N873) s) (Lab.m (v599, [], 0) [(200001, some 200001), (200002, some 10), (200003, some 30)] h) (fun _ h => h) ?_
      rintro ⟨v846, v847, v848⟩ N873 h
      have h : L14_2 x825 r3 N749 v600 v846 v847 v848 N873 := h
      unfold L14_2 at h
      refine AW.sregL [(0, none)] (by kernel_rfl) ?_
      refine l_ds 35 (.one (.d (.bool (decide (v848 < (x825.spans.length : Int)))))) ?_
      refine l_nil ?_
      refine AW.seq ?_
      refine AW.cond' (by kernel_rfl) h (fun h => ?_) (fun h => ?_)
      · refine AW.skip ?_
        refine q_fall ?_
        refine AW.seq ?_
        refine AW.blk ?_
        refine AW.sregL [(0, none), (1, none), (2, none), (3, none)] (by kernel_rfl) ?_
        obtain ⟨h834, x887, h835, h⟩ := h
        refine l_spec (some 36) (.iad 14 (.t 32) (.t 34)) (.one (.d (.ptr [.int .i64 x887.trace, .int .i64 x887.id, .int .i64 x887.parent, .int .i64 x887.revision, .int .i64 x887.clock, .int .i64 x887.kind, .str x887.service, .str x887.version, .str x887.operation, .int .i64 x887.start, .int .i64 x887.end_, .bool x887.error, .sl (List.map TAttr.enc x887.attrs), .sl (List.map TRef.enc x887.links)])), []) (by kernel_rfl) (detA_none (d_iad_sl (enc := TSpan.enc) (k := .i64) x825.spans x887 (by kernel_rfl) (by kernel_rfl) h834 h835 rfl)) ?_
        refine l_ds 37 (.agg [.d (.int .i64 x887.trace), .d (.int .i64 x887.id), .d (.int .i64 x887.parent), .d (.int .i64 x887.revision), .d (.int .i64 x887.clock), .d (.int .i64 x887.kind), .d (.str x887.service), .d (.str x887.version), .d (.str x887.operation), .d (.int .i64 x887.start), .d (.int .i64 x887.end_), .d (.bool x887.error), .d (.sl (List.map TAttr.enc x887.attrs)), .d (.sl (List.map TRef.enc x887.links))]) ?_
        refine l_det (some 13) (.one (.ref 13 1 0 0), [(13, 1, .row true 58 14 [[.d (.int .i64 0), .d (.int .i64 0), .d (.int .i64 0), .d (.int .i64 0), .d (.int .i64 0), .d (.int .i64 0), .d (.str (⟨#[]⟩ : ByteArray)), .d (.str (⟨#[]⟩ : ByteArray)), .d (.str (⟨#[]⟩ : ByteArray)), .d (.int .i64 0), .d (.int .i64 0), .d (.bool false), .nils, .nils]])]) (by kernel_rfl) ?_
        refine l_det none (.tup [], [(13, 1, .row true 58 14 [[.d (.int .i64 x887.trace), .d (.int .i64 x887.id), .d (.int .i64 x887.parent), .d (.int .i64 x887.revision), .d (.int .i64 x887.clock), .d (.int .i64 x887.kind), .d (.str x887.service), .d (.str x887.version), .d (.str x887.operation), .d (.int .i64 x887.start), .d (.int .i64 x887.end_), .d (.bool x887.error), .d (.sl (List.map TAttr.enc x887.attrs)), .d (.sl (List.map TRef.enc x887.links))]])]) (by kernel_rfl) ?_
        refine l_nil ?_
        refine AW.sregL [(0, none), (1, none), (2, none), (3, none), (4, none)] (by kernel_rfl) ?_
        refine l_ds 38 (.one (.d r3.1)) ?_
        refine l_ds 39 (.agg [.d (.int .i64 x887.trace), .d (.int .i64 x887.id), .d (.int .i64 x887.parent), .d (.int .i64 x887.revision), .d (.int .i64 x887.clock), .d (.int .i64 x887.kind), .d (.str x887.service), .d (.str x887.version), .d (.str x887.operation), .d (.int .i64 x887.start), .d (.int .i64 x887.end_), .d (.bool x887.error), .d (.sl (List.map TAttr.enc x887.attrs)), .d (.sl (List.map TRef.enc x887.links))]) ?_
        obtain ⟨KK897, h841, h⟩ := h
        have h841 : ∃ f S, r3.1 = .fn f [] ∧ enters Try.prog f = true ∧ COK Try.prog f S ∧ S [.agg (List.map RC.d [.int .i64 x887.trace, .int .i64 x887.id, .int .i64 x887.parent, .int .i64 x887.revision, .int .i64 x887.clock, .int .i64 x887.kind, .str x887.service, .str x887.version, .str x887.operation, .int .i64 x887.start, .int .i64 x887.end_, .bool x887.error, .sl (List.map TAttr.enc x887.attrs), .sl (List.map TRef.enc x887.links)])] (fun rv rows => ∃ r, rv = (.agg (List.map RC.d (TGroup.enc r))) ∧ rows = [] ∧ KK897 r) := by
          rcases h841 with ⟨hf, hc⟩ | ⟨hf, hc⟩ | ⟨hf, hc⟩
          · exact ⟨62, S62, hf, en62, ok62, cl62 x887 hc⟩
          · exact ⟨63, S63, hf, en63, ok63, cl63 x887 hc⟩
          · exact ⟨64, S64, hf, en64, ok64, cl64 x887 hc⟩
        refine l_callv (some 40) (.t 38) [.t 39] [.agg [.d (.int .i64 x887.trace), .d (.int .i64 x887.id), .d (.int .i64 x887.parent), .d (.int .i64 x887.revision), .d (.int .i64 x887.clock), .d (.int .i64 x887.kind), .d (.str x887.service), .d (.str x887.version), .d (.str x887.operation), .d (.int .i64 x887.start), .d (.int .i64 x887.end_), .d (.bool x887.error), .d (.sl (List.map TAttr.enc x887.attrs)), .d (.sl (List.map TRef.enc x887.links))]] [false] [.agg (List.map RC.d [.int .i64 x887.trace, .int .i64 x887.id, .int .i64 x887.parent, .int .i64 x887.revision, .int .i64 x887.clock, .int .i64 x887.kind, .str x887.service, .str x887.version, .str x887.operation, .int .i64 x887.start, .int .i64 x887.end_, .bool x887.error, .sl (List.map TAttr.enc x887.attrs), .sl (List.map TRef.enc x887.links)])] [] ⟨by kernel_rfl, by kernel_rfl⟩ (by kernel_rfl) (by kernel_rfl) (by kernel_rfl) h841 ⟨by kernel_rfl, by kernel_rfl⟩ (by kernel_rfl) (by kernel_rfl) (by kernel_rfl) ?_
        rintro hR _ _ ⟨r890, rfl, rfl, h842⟩
        have h := h r890 h842
        refine ⟨false, (.agg [.d (.str r890.service), .d (.str r890.version), .d (.str r890.operation)], []), (fun hz => (by cases hz)), (by kernel_rfl), ?_⟩
        refine l_det (some 14) (.one (.ref 14 1 0 0), [(14, 1, .row true 39 3 [[.d (.str (⟨#[]⟩ : ByteArray)), .d (.str (⟨#[]⟩ : ByteArray)), .d (.str (⟨#[]⟩ : ByteArray))]])]) (by kernel_rfl) ?_
        refine l_det none (.tup [], [(14, 1, .row true 39 3 [[.d (.str r890.service), .d (.str r890.version), .d (.str r890.operation)]])]) (by kernel_rfl) ?_
        refine l_nil ?_
        refine AW.sregdL follows_mixed [[], [0], [], [2], [], [4], [2, 3, 4, 5], [0, 1, 2, 3, 4, 5, 6], [], [0, 1, 2, 3, 4, 5, 6, 7, 8]] [(0, none), (1, some [42, 1200002]), (2, none), (3, some [44, 1200002]), (4, some [45, 1000013]), (8, some [15]), (5, some [46]), (6, none), (7, none), (9, none)] (by kernel_rfl) ?_
        refine l_ds 41 (.one (.ref 200002 0 0 1)) ?_
        refine l_ds 42 (.one (.d (.int .i64 x825.weight))) ?_
        refine l_ds 43 (.one (.ref 200002 0 0 1)) ?_
        refine l_ds 44 (.one (.d (.int .i64 x825.weight))) ?_
        refine l_ds 45 (.agg [.d (.int .i64 x887.trace), .d (.int .i64 x887.id), .d (.int .i64 x887.parent), .d (.int .i64 x887.revision), .d (.int .i64 x887.clock), .d (.int .i64 x887.kind), .d (.str x887.service), .d (.str x887.version), .d (.str x887.operation), .d (.int .i64 x887.start), .d (.int .i64 x887.end_), .d (.bool x887.error), .d (.sl (List.map TAttr.enc x887.attrs)), .d (.sl (List.map TRef.enc x887.links))]) ?_
        refine l_det (some 15) (.one (.ref 15 1 0 0), [(15, 1, .row true 37 4 [[.d (.int .i64 0), .d (.int .i64 0), .d (.int .i64 0), .d (.int .i64 0)]])]) (by kernel_rfl) ?_
        refine l_call ok38 en38 (some 46) [.agg [.d (.int .i64 x887.trace), .d (.int .i64 x887.id), .d (.int .i64 x887.parent), .d (.int .i64 x887.revision), .d (.int .i64 x887.clock), .d (.int .i64 x887.kind), .d (.str x887.service), .d (.str x887.version), .d (.str x887.operation), .d (.int .i64 x887.start), .d (.int .i64 x887.end_), .d (.bool x887.error), .d (.sl (List.map TAttr.enc x887.attrs)), .d (.sl (List.map TRef.enc x887.links))]] [false] [.agg (List.map RC.d [.int .i64 x887.trace, .int .i64 x887.id, .int .i64 x887.parent, .int .i64 x887.revision, .int .i64 x887.clock, .int .i64 x887.kind, .str x887.service, .str x887.version, .str x887.operation, .int .i64 x887.start, .int .i64 x887.end_, .bool x887.error, .sl (List.map TAttr.enc x887.attrs), .sl (List.map TRef.enc x887.links)])] [] (by kernel_rfl) ⟨by kernel_rfl, by kernel_rfl⟩ (by kernel_rfl) (by kernel_rfl) (by kernel_rfl) (cl38 x887 h) ?_
        rintro hR _ _ ⟨r892, rfl, rfl, h⟩
        refine ⟨false, (.one (.d (.int .i64 r892)), []), (fun hz => (by cases hz)), (ret_R hR (by kernel_rfl)), ?_⟩
        refine l_ds 47 (.one (.d (.int .i64 (w64 (x825.weight * r892))))) ?_
        refine l_ds 48 (.agg [.d (.int .i64 x825.weight), .d (.int .i64 0), .d (.int .i64 (w64 (x825.weight * r892))), .d (.int .i64 0)]) ?_
        refine l_det none (.tup [], [(15, 1, .row true 37 4 [[.d (.int .i64 x825.weight), .d (.int .i64 0), .d (.int .i64 (w64 (x825.weight * r892))), .d (.int .i64 0)]])]) (by kernel_rfl) ?_
        refine l_nil ?_
        refine AW.seqL (S := Int) (fun s => (fun (v893 : Int) => [(6, .one (.d r3.1)), (8, .one (.mpr 200001 0)), (10, .one (.ref 200002 0 0 0)), (11, .one (.mpr 200003 0)), (14, .one (.ref 200004 0 0 0)), (15, .one (.ref 200005 0 0 0)), (24, .one (.d (.sl (List.map TTrace.enc l_14)))), (25, .one (.d (.int .i64 (l_14.length : Int)))), (26, .one (.d (.int .i64 v600))), (32, .one (.d (.sl (List.map TSpan.enc x825.spans)))), (33, .one (.d (.int .i64 (x825.spans.length : Int)))), (34, .one (.d (.int .i64 v848)))]) s) (fun s => (fun (v893 : Int) => [(200001, .map true true true (enc2 TGroup.enc TTotal.enc v846)), (200002, .expl true 53 3 [[.d (.int .i64 x825.id), .d (.int .i64 x825.weight), .d (.sl (List.map TSpan.enc x825.spans))]]), (200003, .map true true false (enc2 TGroup.enc eBool v847)), (200004, .expl true 39 3 [[.d (.str r890.service), .d (.str r890.version), .d (.str r890.operation)]]), (200005, .expl true 37 4 [[.d (.int .i64 x825.weight), .d (.int .i64 v893), .d (.int .i64 (w64 (x825.weight * r892))), .d (.int .i64 0)]])]) s) (fun s : Int => J14_3 r890 v847 v846 x825 r892 N873 v848 s) ?_ ?_
        · refine AW.sregL [(0, none), (1, none)] (by kernel_rfl) ?_
          refine l_ds 49 (.one (.ref 13 1 0 11)) ?_
          refine l_ds 50 (.one (.d (.bool x887.error))) ?_
          refine l_nil ?_
          refine AW.cond' (by kernel_rfl) h (fun h => ?_) (fun h => ?_)
          · refine AW.regL [(0, none), (1, none), (2, none), (3, none)] (by kernel_rfl) ?_
            refine l_ds 51 (.one (.ref 200002 0 0 1)) ?_
            refine l_ds 52 (.one (.d (.int .i64 x825.weight))) ?_
            refine l_ds 53 (.one (.ref 15 1 0 1)) ?_
            refine l_det none (.tup [], [(15, 1, .row true 37 4 [[.d (.int .i64 x825.weight), .d (.int .i64 x825.weight), .d (.int .i64 (w64 (x825.weight * r892))), .d (.int .i64 0)]])]) (by kernel_rfl) ?_
            refine l_nil ?_
            refine q_fall ?_
            exact Lab.m x825.weight [(200001, some 200001), (200002, some 200002), (200003, some 200003), (200004, some 14), (200005, some 15)] h
          · refine AW.skip ?_
            refine q_fall ?_
            exact Lab.m 0 [(200001, some 200001), (200002, some 200002), (200003, some 200003), (200004, some 14), (200005, some 15)] h
        · rintro v893 h
          have h : J14_3 r890 v847 v846 x825 r892 N873 v848 v893 := h
          unfold J14_3 at h
          refine AW.seqL (S := ((List (TGroup × Bool)) × Int)) (fun s => (fun (v894 : List (TGroup × Bool)) (v895 : Int) => [(6, .one (.d r3.1)), (8, .one (.mpr 200001 0)), (10, .one (.ref 200002 0 0 0)), (11, .one (.mpr 200003 0)), (14, .one (.ref 200004 0 0 0)), (15, .one (.ref 200005 0 0 0)), (24, .one (.d (.sl (List.map TTrace.enc l_14)))), (25, .one (.d (.int .i64 (l_14.length : Int)))), (26, .one (.d (.int .i64 v600))), (32, .one (.d (.sl (List.map TSpan.enc x825.spans)))), (33, .one (.d (.int .i64 (x825.spans.length : Int)))), (34, .one (.d (.int .i64 v848)))]) s.1 s.2) (fun s => (fun (v894 : List (TGroup × Bool)) (v895 : Int) => [(200001, .map true true true (enc2 TGroup.enc TTotal.enc v846)), (200002, .expl true 53 3 [[.d (.int .i64 x825.id), .d (.int .i64 x825.weight), .d (.sl (List.map TSpan.enc x825.spans))]]), (200003, .map true true false (enc2 TGroup.enc eBool v894)), (200004, .expl true 39 3 [[.d (.str r890.service), .d (.str r890.version), .d (.str r890.operation)]]), (200005, .expl true 37 4 [[.d (.int .i64 x825.weight), .d (.int .i64 v893), .d (.int .i64 (w64 (x825.weight * r892))), .d (.int .i64 v895)]])]) s.1 s.2) (fun s : ((List (TGroup × Bool)) × Int) => J14_4 r890 v846 x825 v893 r892 N873 v848 s.1 s.2) ?_ ?_
          · refine AW.sregL [(0, none), (1, none), (2, none), (3, none)] (by kernel_rfl) ?_
            refine l_ds 54 (.one (.mpr 200003 0)) ?_
            refine l_ds 55 (.agg [.d (.str r890.service), .d (.str r890.version), .d (.str r890.operation)]) ?_
            refine l_spec (some 56) (.lkp [.s, .s, .s] true false [.bool false] (.t 54) (.t 55) false) (.one (.d (.bool ((alGet r890 v847).getD false))), []) (by kernel_rfl) (detA_none (d_lkp (ek := TGroup.enc) (ev := eBool) (va := false) v847 r890 false eqk_TGroup (by kernel_rfl) (.inl rfl) (by kernel_rfl) (by kernel_rfl) (by kernel_rfl) (by kernel_rfl) (fun _ _ => rfl))) ?_
            refine l_ds 57 (.one (.d (.bool (!((alGet r890 v847).getD false))))) ?_
            refine l_nil ?_
            refine AW.cond' (by kernel_rfl) h (fun h => ?_) (fun h => ?_)
            · refine AW.regdL follows_mixed [[], [], [], [2], [0, 1], [0, 1, 2, 3, 4], [0, 1, 2, 3, 4, 5]] [(0, none), (1, none), (2, none), (3, some [61, 1200002]), (4, some [200003, 999999]), (5, none), (6, none)] (by kernel_rfl) ?_
              refine l_ds 58 (.one (.mpr 200003 0)) ?_
              refine l_ds 59 (.agg [.d (.str r890.service), .d (.str r890.version), .d (.str r890.operation)]) ?_
              refine l_ds 60 (.one (.ref 200002 0 0 1)) ?_
              refine l_ds 61 (.one (.d (.int .i64 x825.weight))) ?_
              refine l_spec none (.mup [.s, .s, .s] true (.t 58) (.t 59) (.c (.bool true))) (.tup [], [(200003, 0, .map true true false (enc2 TGroup.enc eBool (alPut r890 true v847)))]) (by kernel_rfl) (detA_some (d_mup (ek := TGroup.enc) (ev := eBool) v847 r890 true eqk_TGroup (by kernel_rfl) (by kernel_rfl) (by kernel_rfl) (by kernel_rfl) (by kernel_rfl) (by kernel_rfl) (by kernel_rfl) (by kernel_rfl)) (by kernel_rfl)) ?_
              refine l_ds 62 (.one (.ref 200005 0 0 3)) ?_
              refine l_det none (.tup [], [(200005, 0, .row true 37 4 [[.d (.int .i64 x825.weight), .d (.int .i64 v893), .d (.int .i64 (w64 (x825.weight * r892))), .d (.int .i64 x825.weight)]])]) (by kernel_rfl) ?_
              refine l_nil ?_
              refine q_fall ?_
              exact Lab.m ((alPut r890 true v847), x825.weight) [(200001, some 200001), (200002, some 200002), (200003, some 200003), (200004, some 200004), (200005, some 200005)] h
            · refine AW.skip ?_
              refine q_fall ?_
              exact Lab.m (v847, 0) [(200001, some 200001), (200002, some 200002), (200003, some 200003), (200004, some 200004), (200005, some 200005)] h
          · rintro ⟨v894, v895⟩ h
            have h : J14_4 r890 v846 x825 v893 r892 N873 v848 v894 v895 := h
            unfold J14_4 at h
            refine AW.regdL follows_mixed [[], [], [], [], [2, 3], [], [2, 3, 4, 5], [0, 1, 2, 3, 4, 5, 6]] [(0, none), (1, some [64, 1200004]), (2, none), (3, none), (4, none), (5, none), (6, some [69]), (7, none)] (by kernel_rfl) ?_
            refine l_ds 63 (.one (.mpr 200001 0)) ?_
            refine l_ds 64 (.agg [.d (.str r890.service), .d (.str r890.version), .d (.str r890.operation)]) ?_
            refine l_ds 65 (.one (.mpr 200001 0)) ?_
            refine l_ds 66 (.agg [.d (.str r890.service), .d (.str r890.version), .d (.str r890.operation)]) ?_
            refine l_spec (some 67) (.lkp [.s, .s, .s] true true [.int .i64 0, .int .i64 0, .int .i64 0, .int .i64 0] (.t 65) (.t 66) false) (.agg [.d (.int .i64 (((alGet r890 v846).getD (TTotal.mk 0 0 0 0)).spans)), .d (.int .i64 (((alGet r890 v846).getD (TTotal.mk 0 0 0 0)).errors)), .d (.int .i64 (((alGet r890 v846).getD (TTotal.mk 0 0 0 0)).duration)), .d (.int .i64 (((alGet r890 v846).getD (TTotal.mk 0 0 0 0)).traces))], []) (by kernel_rfl) (detA_none (d_lkp (ek := TGroup.enc) (ev := TTotal.enc) (va := true) v846 r890 (TTotal.mk 0 0 0 0) eqk_TGroup (by kernel_rfl) (.inl rfl) (by kernel_rfl) (by kernel_rfl) (by kernel_rfl) (by kernel_rfl) (fun h => by cases h))) ?_
            refine l_ds 68 (.agg [.d (.int .i64 x825.weight), .d (.int .i64 v893), .d (.int .i64 (w64 (x825.weight * r892))), .d (.int .i64 v895)]) ?_
            refine l_call ok39 en39 (some 69) [.agg [.d (.int .i64 (((alGet r890 v846).getD (TTotal.mk 0 0 0 0)).spans)), .d (.int .i64 (((alGet r890 v846).getD (TTotal.mk 0 0 0 0)).errors)), .d (.int .i64 (((alGet r890 v846).getD (TTotal.mk 0 0 0 0)).duration)), .d (.int .i64 (((alGet r890 v846).getD (TTotal.mk 0 0 0 0)).traces))], .agg [.d (.int .i64 x825.weight), .d (.int .i64 v893), .d (.int .i64 (w64 (x825.weight * r892))), .d (.int .i64 v895)]] [false, false] [.agg (List.map RC.d [.int .i64 (((alGet r890 v846).getD (TTotal.mk 0 0 0 0)).spans), .int .i64 (((alGet r890 v846).getD (TTotal.mk 0 0 0 0)).errors), .int .i64 (((alGet r890 v846).getD (TTotal.mk 0 0 0 0)).duration), .int .i64 (((alGet r890 v846).getD (TTotal.mk 0 0 0 0)).traces)]), .agg (List.map RC.d [.int .i64 x825.weight, .int .i64 v893, .int .i64 (w64 (x825.weight * r892)), .int .i64 v895])] [] (by kernel_rfl) ⟨by kernel_rfl, by kernel_rfl⟩ (by kernel_rfl) (by kernel_rfl) (by kernel_rfl) (cl39 (TTotal.mk (((alGet r890 v846).getD (TTotal.mk 0 0 0 0)).spans) (((alGet r890 v846).getD (TTotal.mk 0 0 0 0)).errors) (((alGet r890 v846).getD (TTotal.mk 0 0 0 0)).duration) (((alGet r890 v846).getD (TTotal.mk 0 0 0 0)).traces)) (TTotal.mk x825.weight v893 (w64 (x825.weight * r892)) v895) h) ?_
            rintro hR _ _ ⟨r896, rfl, rfl, h⟩
            refine ⟨false, (.agg [.d (.int .i64 r896.spans), .d (.int .i64 r896.errors), .d (.int .i64 r896.duration), .d (.int .i64 r896.traces)], []), (fun hz => (by cases hz)), (ret_R hR (by kernel_rfl)), ?_⟩
            refine l_spec none (.mup [.s, .s, .s] true (.t 63) (.t 64) (.t 69)) (.tup [], [(200001, 0, .map true true true (enc2 TGroup.enc TTotal.enc (alPut r890 r896 v846)))]) (by kernel_rfl) (detA_none (d_mup (ek := TGroup.enc) (ev := TTotal.enc) v846 r890 r896 eqk_TGroup (by kernel_rfl) (by kernel_rfl) (by kernel_rfl) (by kernel_rfl) (by kernel_rfl) (by kernel_rfl) (by kernel_rfl) (by kernel_rfl))) ?_
            refine l_nil ?_
            refine q_bfall ?_
            refine q_fall ?_
            refine AW.regL [(0, none), (1, none)] (by kernel_rfl) ?_
            refine l_ds 70 (.one (.d (.int .i64 (w64 (v848 + 1))))) ?_
            refine l_ds 34 (.one (.d (.int .i64 (w64 (v848 + 1))))) ?_
            refine l_nil ?_
            refine q_fall ?_
            exact Lab.m ((alPut r890 r896 v846), v894, (w64 (v848 + 1))) [(200001, some 200001), (200002, some 200002), (200003, some 200003)] h
      · refine AW.exit ?_
        refine q_exit ?_
        refine q_exit ?_
        refine q_bhere ?_
        refine q_bfall ?_
        refine q_fall ?_
        refine AW.regL [(0, none), (1, none)] (by kernel_rfl) ?_
        refine l_ds 71 (.one (.d (.int .i64 (w64 (v600 + 1))))) ?_
        refine l_ds 26 (.one (.d (.int .i64 (w64 (v600 + 1))))) ?_
        refine l_nil ?_
        refine q_fall ?_
        exact Lab.m (v846, (w64 (v600 + 1))) [(200001, some 200001)] h
    · refine AW.exit ?_
      refine q_exit ?_
      refine q_exit ?_
      refine q_bhere ?_
      refine q_fall ?_
      refine AW.sregL [(0, none), (1, none), (2, none), (3, none)] (by kernel_rfl) ?_
      refine l_ds 72 (.one (.mpr 200001 0)) ?_
      refine l_call ok40 en40 (some 73) [.one (.mpr 200001 0)] [false] [.one (.d (.mp true true (enc2 TGroup.enc TTotal.enc v599)))] [200001] (by kernel_rfl) ⟨by kernel_rfl, by kernel_rfl⟩ (by kernel_rfl) (by kernel_rfl) (by kernel_rfl) (cl40 v599 h) ?_
      rintro hR _ _ ⟨r1471, rfl, rfl, h⟩
      refine ⟨false, (.one (.view 73 1 0 ((List.map TLine.enc r1471).length)), [(200001, 0, .map false true true (enc2 TGroup.enc TTotal.enc v599)), (73, 1, .row true 41 7 (dmm (List.map TLine.enc r1471)))]), (fun hz => (by cases hz)), (ret_R hR (by kernel_rfl)), ?_⟩
      refine l_ds 4 (.one (.view 73 1 0 ((List.map TLine.enc r1471).length))) ?_
      refine l_ds 5 (.one (.d (.int .i64 0))) ?_
      refine l_nil ?_
      refine AW.ret ?_
      exact q_end [.one (.view 73 1 0 ((List.map TLine.enc r1471).length)), .one (.d (.int .i64 0))] [true, false] [.one (.own 41 7 (List.map TLine.enc r1471)), .one (.d (.int .i64 0))] [] [] (by kernel_rfl) (ps_own (by kernel_rfl) (by kernel_rfl) rfl (ps_plain (pv_one pf_d) ps_nil)) (by kernel_rfl) (by kernel_rfl) (by kernel_rfl) (by kernel_rfl) (Eq.mp (by kernel_rfl) (hK (r1471, 0) h)) (.inr rfl)
def r43_0 : List AR := [⟨some 2, .mov (.c (.int .i64 0)), [], none⟩]
def r43_1 : List AR := [⟨some 3, .mov (.t 0), [], none⟩,
  ⟨some 4, .bin .shr (.t 3) (.c (.int .u64 20)), [0], none⟩,
  ⟨some 2, .mov (.t 4), [1, 0, 1], none⟩]
def c43 : ACode := .seq (.reg r43_0 false) (.seq (.reg r43_1 false) (.ret))
theorem body43 : Try.f43.body.map (comp Try.prog 5) = some c43 := by kernel_rfl
theorem res43 : allSome (Try.f43.results.toList.map (compRes Try.prog)) = some [.s 2] := by kernel_rfl
theorem cok43 {S : FSpec} (h : ∀ args K, S args K → args.all argOk = true ∧ args.length ≤ 5 ∧ AW Try.prog 5 (some ownP) c43 (initS args) (retPost [.s 2] args K)) : COK Try.prog 43 S := of_body Try.func43 Try.ntmps43 body43 res43 h

/-- sleuth/span.Slot -/
def W43 (trace_43 : Int) (K : Int → Prop) : Prop :=
  K (Int.fdiv trace_43 (2 ^ 20))

def S43 : FSpec := fun args K => ∃ (trace_43 : Int), ∃ (Kr : Int → Prop), args = [.one (.d (.int .i64 trace_43))] ∧ W43 trace_43 Kr ∧ ∀ r, Kr r → K (.one (.d (.int .i64 r))) []

theorem en43 : enters Try.prog 43 = true := by unfold enters; rw [Try.func43]; rfl
theorem cl43 (trace_43 : Int) {Kr : Int → Prop} (h : W43 trace_43 Kr) : S43 [.one (.d (.int .i64 trace_43))] (fun rv rows => ∃ r, rv = (.one (.d (.int .i64 r))) ∧ rows = [] ∧ Kr r) := ⟨trace_43, Kr, rfl, h, fun r hr => ⟨r, rfl, rfl, hr⟩⟩

theorem ok43 : COK Try.prog 43 S43 := by
  refine cok43 fun args K0 hS => ?_
  obtain ⟨trace_43, K, rfl, h, hK⟩ := hS
  refine ⟨by kernel_rfl, by simp, ?_⟩
  unfold W43 at h
  refine AW.sregL [(0, none)] (by kernel_rfl) ?_
  refine l_ds 2 (.one (.d (.int .i64 0))) ?_
  refine l_nil ?_
  refine AW.sregL [(0, none), (1, none), (2, none)] (by kernel_rfl) ?_
  refine l_ds 3 (.one (.d (.int .i64 trace_43))) ?_
  refine l_ds 4 (.one (.d (.int .i64 (Int.fdiv trace_43 (2 ^ 20))))) ?_
  refine l_ds 2 (.one (.d (.int .i64 (Int.fdiv trace_43 (2 ^ 20))))) ?_
  refine l_nil ?_
  refine AW.ret ?_
  exact q_end [.one (.d (.int .i64 (Int.fdiv trace_43 (2 ^ 20))))] [false] [.one (.d (.int .i64 (Int.fdiv trace_43 (2 ^ 20))))] [] [] (by kernel_rfl) ⟨by kernel_rfl, by kernel_rfl⟩ (by kernel_rfl) (by kernel_rfl) (by kernel_rfl) (by kernel_rfl) (Eq.mp (by kernel_rfl) (hK (Int.fdiv trace_43 (2 ^ 20)) h)) (.inr rfl)
def r18_0 : List AR := [⟨some 2, .mov (.c (.int .i64 0)), [], none⟩]
def r18_1 : List AR := [⟨some 3, .mov (.t 0), [], none⟩,
  ⟨some 4, .call 43 [.t 3], [0], none⟩,
  ⟨some 5, .bin .shr (.t 4) (.c (.int .u64 4)), [1], none⟩,
  ⟨some 2, .mov (.t 5), [2, 1, 0, 1, 2], none⟩]
def c18 : ACode := .seq (.reg r18_0 false) (.seq (.reg r18_1 false) (.ret))
theorem body18 : Try.f18.body.map (comp Try.prog 6) = some c18 := by kernel_rfl
theorem res18 : allSome (Try.f18.results.toList.map (compRes Try.prog)) = some [.s 2] := by kernel_rfl
theorem cok18 {S : FSpec} (h : ∀ args K, S args K → args.all argOk = true ∧ args.length ≤ 6 ∧ AW Try.prog 6 (some ownP) c18 (initS args) (retPost [.s 2] args K)) : COK Try.prog 18 S := of_body Try.func18 Try.ntmps18 body18 res18 h

/-- sleuth/span.Partition -/
def W18 (trace_18 : Int) (K : Int → Prop) : Prop :=
  W43 trace_18 fun r1498 => K (Int.fdiv r1498 (2 ^ 4))

def S18 : FSpec := fun args K => ∃ (trace_18 : Int), ∃ (Kr : Int → Prop), args = [.one (.d (.int .i64 trace_18))] ∧ W18 trace_18 Kr ∧ ∀ r, Kr r → K (.one (.d (.int .i64 r))) []

theorem en18 : enters Try.prog 18 = true := by unfold enters; rw [Try.func18]; rfl
theorem cl18 (trace_18 : Int) {Kr : Int → Prop} (h : W18 trace_18 Kr) : S18 [.one (.d (.int .i64 trace_18))] (fun rv rows => ∃ r, rv = (.one (.d (.int .i64 r))) ∧ rows = [] ∧ Kr r) := ⟨trace_18, Kr, rfl, h, fun r hr => ⟨r, rfl, rfl, hr⟩⟩

theorem ok18 : COK Try.prog 18 S18 := by
  refine cok18 fun args K0 hS => ?_
  obtain ⟨trace_18, K, rfl, h, hK⟩ := hS
  refine ⟨by kernel_rfl, by simp, ?_⟩
  unfold W18 at h
  refine AW.sregL [(0, none)] (by kernel_rfl) ?_
  refine l_ds 2 (.one (.d (.int .i64 0))) ?_
  refine l_nil ?_
  refine AW.sregL [(0, none), (1, none), (2, none), (3, none)] (by kernel_rfl) ?_
  refine l_ds 3 (.one (.d (.int .i64 trace_18))) ?_
  refine l_call ok43 en43 (some 4) [.one (.d (.int .i64 trace_18))] [false] [.one (.d (.int .i64 trace_18))] [] (by kernel_rfl) ⟨by kernel_rfl, by kernel_rfl⟩ (by kernel_rfl) (by kernel_rfl) (by kernel_rfl) (cl43 trace_18 h) ?_
  rintro hR _ _ ⟨r1498, rfl, rfl, h⟩
  refine ⟨false, (.one (.d (.int .i64 r1498)), []), (fun hz => (by cases hz)), (ret_R hR (by kernel_rfl)), ?_⟩
  refine l_ds 5 (.one (.d (.int .i64 (Int.fdiv r1498 (2 ^ 4))))) ?_
  refine l_ds 2 (.one (.d (.int .i64 (Int.fdiv r1498 (2 ^ 4))))) ?_
  refine l_nil ?_
  refine AW.ret ?_
  exact q_end [.one (.d (.int .i64 (Int.fdiv r1498 (2 ^ 4))))] [false] [.one (.d (.int .i64 (Int.fdiv r1498 (2 ^ 4))))] [] [] (by kernel_rfl) ⟨by kernel_rfl, by kernel_rfl⟩ (by kernel_rfl) (by kernel_rfl) (by kernel_rfl) (by kernel_rfl) (Eq.mp (by kernel_rfl) (hK (Int.fdiv r1498 (2 ^ 4)) h)) (.inr rfl)
end Go.Proofs.Ytnpdeecoejabgaa
