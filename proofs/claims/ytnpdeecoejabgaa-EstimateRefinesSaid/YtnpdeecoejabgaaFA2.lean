/- Go functions: their shallow forms, and that they keep their contracts. Printed by a program of mine (gs.py). -/
import Derived.Test.YtnpdeecoejabgaaFA1
set_option maxRecDepth 100000
set_option linter.unusedVariables false
set_option linter.unusedSimpArgs false
namespace Go.Proofs.Ytnpdeecoejabgaa
open Go Go.RowKit

def r17_0 : List AR := [⟨some 1, .box 27 true 7 (.t 0), [], none⟩,
  ⟨some 2, .mov (.c .nils), [], none⟩]
def r17_1 : List AR := [⟨some 3, .mov (.c .nils), [], none⟩]
def r17_2 : List AR := [⟨some 4, .mov (.c (.int .i64 0)), [], none⟩]
def r17_3 : List AR := [⟨some 7, .mov (.t 4), [], none⟩,
  ⟨some 8, .fad (.t 1) 0, [], none⟩,
  ⟨some 9, .ld false 1 (.t 8), [1], none⟩,
  ⟨some 10, .lens (.t 9), [2], none⟩,
  ⟨some 11, .bin .lss (.t 7) (.t 10), [0, 3], none⟩]
def r17_4 : List AR := [⟨some 14, .fad (.t 1) 0, [], none⟩,
  ⟨some 15, .ld false 1 (.t 14), [0], none⟩,
  ⟨some 16, .mov (.t 4), [], none⟩,
  ⟨some 17, .iad 3 (.t 15) (.t 16), [1, 2], none⟩,
  ⟨some 18, .fad (.t 17) 2, [3], none⟩,
  ⟨some 19, .ld false 1 (.t 18), [4], none⟩,
  ⟨some 20, .lens (.t 19), [5], none⟩,
  ⟨some 21, .bin .eql (.t 20) (.c (.int .i64 0)), [6], none⟩]
def r17_5 : List AR := [⟨some 22, .ld true 7 (.t 1), [], none⟩,
  ⟨some 23, .mov (.t 4), [], none⟩,
  ⟨some 24, .call 41 [.t 22, .t 23], [0, 1], none⟩,
  ⟨some 25, .ld true 7 (.t 1), [], none⟩,
  ⟨some 26, .mov (.t 4), [], none⟩,
  ⟨some 27, .call 42 [.t 25, .t 26, .c (.bool false)], [3, 4, 2], none⟩,
  ⟨some 28, .bld [.int .i64 0, .int .i64 0, .nils] [(0, 1, .t 24), (1, 1, .c (.int .i64 1)), (2, 1, .t 27)], [2, 5], none⟩,
  ⟨some 5, .alloc 53 true [.int .i64 0, .int .i64 0, .nils], [], none⟩,
  ⟨none, .st 3 (.t 5) (.t 28), [7, 6, 5, 0, 1, 2, 3, 4, 5, 6, 7], none⟩]
def r17_6 : List AR := [⟨some 29, .mov (.t 3), [], none⟩,
  ⟨some 30, .lens (.t 29), [0], none⟩,
  ⟨some 6, .mov (.t 30), [1, 0, 1], none⟩]
def r17_7 : List AR := [⟨some 31, .mov (.t 6), [], none⟩,
  ⟨some 32, .bin .gtr (.t 31) (.c (.int .i64 0)), [0], none⟩,
  ⟨some 33, .mov (.t 32), [1], none⟩,
  ⟨some 34, .mov (.t 3), [2], some (33, true)⟩,
  ⟨some 35, .mov (.t 6), [2], some (33, true)⟩,
  ⟨some 36, .bin .sub (.t 35) (.c (.int .i64 1)), [4, 2], some (33, true)⟩,
  ⟨some 37, .iad 3 (.t 34) (.t 36), [3, 5, 2], some (33, true)⟩,
  ⟨some 38, .fad (.t 37) 0, [6, 2], some (33, true)⟩,
  ⟨some 39, .ld false 1 (.t 38), [7, 2], some (33, true)⟩,
  ⟨some 40, .fad (.t 5) 0, [2], some (33, true)⟩,
  ⟨some 41, .ld false 1 (.t 40), [9, 2], some (33, true)⟩,
  ⟨some 42, .bin .gtr (.t 39) (.t 41), [8, 10, 2], some (33, true)⟩,
  ⟨some 43, .pick (.t 33) (.t 42) (.c (.bool false)), [2, 11], none⟩]
def r17_8 : List AR := [⟨some 44, .mov (.t 6), [], none⟩,
  ⟨some 45, .bin .sub (.t 44) (.c (.int .i64 1)), [0], none⟩,
  ⟨some 6, .mov (.t 45), [1, 0, 1], none⟩]
def r17_9 : List AR := [⟨some 46, .bsl 53 3 0 [.int .i64 0, .int .i64 0, .nils] [], [], none⟩,
  ⟨some 47, .mov (.t 3), [], none⟩,
  ⟨some 48, .mov (.t 6), [], none⟩,
  ⟨some 49, .slc 3 (.t 47) none (some (.t 48)) none, [1, 2], none⟩,
  ⟨some 50, .app 53 3 40 [.int .i64 0, .int .i64 0, .nils] (.t 46) (.t 49), [0, 3], none⟩,
  ⟨some 51, .ld true 3 (.t 5), [], none⟩,
  ⟨some 52, .bsl 53 3 1 [.int .i64 0, .int .i64 0, .nils] [(0, .t 51)], [5], none⟩,
  ⟨some 53, .app 53 3 40 [.int .i64 0, .int .i64 0, .nils] (.t 50) (.t 52), [4, 6, 4], none⟩,
  ⟨some 54, .mov (.t 3), [], none⟩,
  ⟨some 55, .mov (.t 6), [], none⟩,
  ⟨some 56, .slc 3 (.t 54) (some (.t 55)) none none, [8, 9], none⟩,
  ⟨some 57, .app 53 3 40 [.int .i64 0, .int .i64 0, .nils] (.t 53) (.t 56), [7, 10, 7], none⟩,
  ⟨some 3, .mov (.t 57), [11, 11, 0, 1, 2, 3, 4, 5, 6, 7, 8, 9, 10, 11], none⟩]
def r17_10 : List AR := [⟨some 12, .mov (.t 4), [], none⟩,
  ⟨some 13, .bin .add (.t 12) (.c (.int .i64 1)), [0], none⟩,
  ⟨some 4, .mov (.t 13), [1, 0, 1], none⟩]
def r17_11 : List AR := [⟨some 58, .mov (.t 3), [], none⟩,
  ⟨some 2, .mov (.t 58), [0, 0], none⟩]
def c17 : ACode := .seq (.reg r17_0 false) (.seq (.reg r17_1 false) (.seq (.seq (.reg r17_2 false) (.blk 0 (.loop (.seq (.seq (.reg r17_3 false) (.cond (.t 11) (.skip) (.exit 0))) (.seq (.blk 1 (.seq (.seq (.reg r17_4 false) (.cond (.t 21) (.exit 1) (.skip))) (.seq (.reg r17_5 true) (.seq (.reg r17_6 false) (.seq (.blk 2 (.loop (.seq (.seq (.reg r17_7 true) (.cond (.t 43) (.skip) (.exit 2))) (.blk 3 (.reg r17_8 false))))) (.reg r17_9 true)))))) (.reg r17_10 false)))))) (.seq (.reg r17_11 false) (.ret))))
theorem body17 : Try.f17.body.map (comp Try.prog 59) = some c17 := by kernel_rfl
theorem res17 : allSome (Try.f17.results.toList.map (compRes Try.prog)) = some [.s 2] := by kernel_rfl
theorem cok17 {S : FSpec} (h : ∀ args K, S args K → args.all argOk = true ∧ args.length ≤ 59 ∧ AW Try.prog 59 (some ownP) c17 (initS args) (retPost [.s 2] args K)) : COK Try.prog 17 S := of_body Try.func17 Try.ntmps17 body17 res17 h

def J17_2 (N1294 : ((List TTrace) × Int) → Prop) (v1112 : Int) (v1415 : List TTrace) : Prop :=
  N1294 (v1415, (w64 (v1112 + 1)))

def J17_4 (N1467 : Int → Prop) (v1458 : Int) (v1111 : List TTrace) (r1422 : Int) (r1423 : (List TSpan)) (N1294 : ((List TTrace) × Int) → Prop) (v1112 : Int) (v1474 : Bool) : Prop :=
  Cond v1474 (N1467 (w64 (v1458 - 1))) (0 ≤ v1458 ∧ v1458 ≤ (v1111.length : Int) ∧ (0 ≤ v1458 ∧ v1458 ≤ (v1111.length : Int) ∧ (Fits (([] ++ (List.take (v1458.toNat - 0) (List.drop 0 v1111))).length * 40) (Fits ((([] ++ (List.take (v1458.toNat - 0) (List.drop 0 v1111))) ++ [(TTrace.mk r1422 1 r1423)]).length * 40) (Fits (((([] ++ (List.take (v1458.toNat - 0) (List.drop 0 v1111))) ++ [(TTrace.mk r1422 1 r1423)]) ++ (List.take (v1111.length - v1458.toNat) (List.drop v1458.toNat v1111))).length * 40) (J17_2 N1294 v1112 ((([] ++ (List.take (v1458.toNat - 0) (List.drop 0 v1111))) ++ [(TTrace.mk r1422 1 r1423)]) ++ (List.take (v1111.length - v1458.toNat) (List.drop v1458.toNat v1111)))))))))

def L17_3 (v1111 : List TTrace) (r1422 : Int) (r1423 : (List TSpan)) (N1294 : ((List TTrace) × Int) → Prop) (v1112 : Int) (v1458 : Int) (N1467 : Int → Prop) : Prop :=
  Cond (decide (v1458 > 0)) (Idx v1111 (w64 (v1458 - 1)) fun x1475 => J17_4 N1467 v1458 v1111 r1422 r1423 N1294 v1112 (decide (x1475.id > r1422))) (J17_4 N1467 v1458 v1111 r1422 r1423 N1294 v1112 false)

def L17_1 (s_17 : TStory) (K : (List TTrace) → Prop) (v1111 : List TTrace) (v1112 : Int) (N1294 : ((List TTrace) × Int) → Prop) : Prop :=
  Cond (decide (v1112 < (s_17.trees.length : Int))) (Idx s_17.trees v1112 fun x1419 => Cond (decide ((x1419.calls.length : Int) = 0)) (J17_2 N1294 v1112 v1111) (W41 s_17 v1112 fun r1422 => W42 s_17 v1112 false fun r1423 => LoopW (fun (s : Int) N1467 => L17_3 v1111 r1422 r1423 N1294 v1112 s N1467) (v1111.length : Int))) (K v1111)

/-- sleuth/sleuthlaw13.Traces -/
def W17 (s_17 : TStory) (K : (List TTrace) → Prop) : Prop :=
  LoopW (fun (s : ((List TTrace) × Int)) N1294 => L17_1 s_17 K s.1 s.2 N1294) ([], 0)

def S17 : FSpec := fun args K => ∃ (s_17 : TStory), ∃ (Kr : (List TTrace) → Prop), args = [.agg (List.map RC.d (TStory.enc s_17))] ∧ W17 s_17 Kr ∧ ∀ r, Kr r → K (.one (.own 53 3 (List.map TTrace.enc r))) []

theorem en17 : enters Try.prog 17 = true := by unfold enters; rw [Try.func17]; rfl
theorem cl17 (s_17 : TStory) {Kr : (List TTrace) → Prop} (h : W17 s_17 Kr) : S17 [.agg (List.map RC.d (TStory.enc s_17))] (fun rv rows => ∃ r, rv = (.one (.own 53 3 (List.map TTrace.enc r))) ∧ rows = [] ∧ Kr r) := ⟨s_17, Kr, rfl, h, fun r hr => ⟨r, rfl, rfl, hr⟩⟩

theorem ok17 : COK Try.prog 17 S17 := by
  refine cok17 fun args K0 hS => ?_
  obtain ⟨s_17, K, rfl, h, hK⟩ := hS
  refine ⟨by kernel_rfl, by simp, ?_⟩
  unfold W17 at h
  refine AW.sregL [(0, none), (1, none)] (by kernel_rfl) ?_
  refine l_det (some 1) (.one (.ref 1 1 0 0), [(1, 1, .row true 27 7 [[.d (.sl (List.map TTree.enc s_17.trees)), .d (.int .i8 s_17.offsets.e0), .d (.int .i8 s_17.offsets.e1), .d (.int .i8 s_17.offsets.e2), .d (.int .i8 s_17.offsets.e3), .d (.sl (List.map TSync.enc s_17.syncs)), .d (.int .u8 s_17.wrong)]])]) (by kernel_rfl) ?_
  refine l_det (some 2) (.one (.nils), []) (by kernel_rfl) ?_
  refine l_nil ?_
  refine AW.sregL [(0, none)] (by kernel_rfl) ?_
  refine l_det (some 3) (.one (.nils), []) (by kernel_rfl) ?_
  refine l_nil ?_
  refine AW.seq ?_
  refine AW.sregL [(0, none)] (by kernel_rfl) ?_
  refine l_det (some 4) (.one (.d (.int .i64 0)), []) (by kernel_rfl) ?_
  refine l_nil ?_
  refine AW.blk ?_
  refine AW.loopL (S := ((List TTrace) × Int)) (fun s => (fun (v1111 : List TTrace) (v1112 : Int) => [(1, .one (.ref 200001 0 0 0)), (3, .one (.view 200002 0 0 ((List.map TTrace.enc v1111).length))), (4, .one (.d (.int .i64 v1112)))]) s.1 s.2) (fun s => (fun (v1111 : List TTrace) (v1112 : Int) => [(200001, .expl true 27 7 [[.d (.sl (List.map TTree.enc s_17.trees)), .d (.int .i8 s_17.offsets.e0), .d (.int .i8 s_17.offsets.e1), .d (.int .i8 s_17.offsets.e2), .d (.int .i8 s_17.offsets.e3), .d (.sl (List.map TSync.enc s_17.syncs)), .d (.int .u8 s_17.wrong)]]), (200002, .pure true 53 3 (List.map TTrace.enc v1111))]) s.1 s.2) (fun (s : ((List TTrace) × Int)) N1294 => L17_1 s_17 K s.1 s.2 N1294) (N := fun s => LoopW (fun (s : ((List TTrace) × Int)) N1294 => L17_1 s_17 K s.1 s.2 N1294) s) (Lab.mk ([], 0) [(200001, some 1), (200002, none)] (by kernel_rfl) (by kernel_rfl) (by kernel_rfl) (by kernel_rfl) h) (fun _ h => h) ?_
  rintro ⟨v1111, v1112⟩ N1294 h
  have h : L17_1 s_17 K v1111 v1112 N1294 := h
  unfold L17_1 at h
  refine AW.seq ?_
  refine AW.sregL [(0, none), (1, none), (2, none), (3, none), (4, none)] (by kernel_rfl) ?_
  refine l_det (some 7) (.one (.d (.int .i64 v1112)), []) (by kernel_rfl) ?_
  refine l_det (some 8) (.one (.ref 200001 0 0 0), []) (by kernel_rfl) ?_
  refine l_det (some 9) (.one (.d (.sl (List.map TTree.enc s_17.trees))), []) (by kernel_rfl) ?_
  refine l_spec (some 10) (.lens (.t 9)) (.one (.d (.int .i64 (s_17.trees.length : Int))), []) (by kernel_rfl) (detA_none (d_lens_sl (enc := TTree.enc) s_17.trees (by kernel_rfl))) ?_
  refine l_det (some 11) (.one (.d (.bool (decide (v1112 < (s_17.trees.length : Int))))), []) (by kernel_rfl) ?_
  refine l_nil ?_
  refine AW.cond' (by kernel_rfl) h (fun h => ?_) (fun h => ?_)
  · refine AW.skip ?_
    refine q_fall ?_
    refine AW.seqL (S := (List TTrace)) (fun s => (fun (v1415 : List TTrace) => [(1, .one (.ref 200001 0 0 0)), (3, .one (.view 200002 0 0 ((List.map TTrace.enc v1415).length))), (4, .one (.d (.int .i64 v1112)))]) s) (fun s => (fun (v1415 : List TTrace) => [(200001, .expl true 27 7 [[.d (.sl (List.map TTree.enc s_17.trees)), .d (.int .i8 s_17.offsets.e0), .d (.int .i8 s_17.offsets.e1), .d (.int .i8 s_17.offsets.e2), .d (.int .i8 s_17.offsets.e3), .d (.sl (List.map TSync.enc s_17.syncs)), .d (.int .u8 s_17.wrong)]]), (200002, .pure true 53 3 (List.map TTrace.enc v1415))]) s) (fun s : (List TTrace) => J17_2 N1294 v1112 s) ?_ ?_
    · refine AW.blk ?_
      refine AW.seq ?_
      refine AW.sregL [(0, none), (1, none), (2, none), (3, none), (4, none), (5, none), (6, none), (7, none)] (by kernel_rfl) ?_
      refine l_det (some 14) (.one (.ref 200001 0 0 0), []) (by kernel_rfl) ?_
      refine l_det (some 15) (.one (.d (.sl (List.map TTree.enc s_17.trees))), []) (by kernel_rfl) ?_
      refine l_det (some 16) (.one (.d (.int .i64 v1112)), []) (by kernel_rfl) ?_
      obtain ⟨h1156, x1419, h1157, h⟩ := h
      refine l_spec (some 17) (.iad 3 (.t 15) (.t 16)) (.one (.d (.ptr [.int .u8 x1419.slot, .int .u8 x1419.start, .sl (List.map TCall.enc x1419.calls)])), []) (by kernel_rfl) (detA_none (d_iad_sl (enc := TTree.enc) (k := .i64) s_17.trees x1419 (by kernel_rfl) (by kernel_rfl) h1156 h1157 rfl)) ?_
      refine l_det (some 18) (.one (.d (.ptr [.sl (List.map TCall.enc x1419.calls)])), []) (by kernel_rfl) ?_
      refine l_det (some 19) (.one (.d (.sl (List.map TCall.enc x1419.calls))), []) (by kernel_rfl) ?_
      refine l_spec (some 20) (.lens (.t 19)) (.one (.d (.int .i64 (x1419.calls.length : Int))), []) (by kernel_rfl) (detA_none (d_lens_sl (enc := TCall.enc) x1419.calls (by kernel_rfl))) ?_
      refine l_det (some 21) (.one (.d (.bool (decide ((x1419.calls.length : Int) = 0)))), []) (by kernel_rfl) ?_
      refine l_nil ?_
      refine AW.cond' (by kernel_rfl) h (fun h => ?_) (fun h => ?_)
      · refine AW.exit ?_
        refine q_exit ?_
        refine q_bhere ?_
        refine q_fall ?_
        exact Lab.mk v1111 [(200001, some 200001), (200002, some 200002)] (by kernel_rfl) (by kernel_rfl) (by kernel_rfl) (by kernel_rfl) h
      · refine AW.skip ?_
        refine q_fall ?_
        refine AW.sregdL follows_mixed [[], [], [0, 1], [], [], [0, 1, 2, 3, 4], [0, 1, 2, 3, 4, 5], [], [0, 1, 2, 3, 4, 5, 6, 7]] [(0, some [22, 1200001]), (1, none), (3, some [25, 1200001]), (4, none), (7, some [5]), (2, some [24]), (5, some [27]), (6, none), (8, none)] (by kernel_rfl) ?_
        refine l_det (some 22) (.agg [.d (.sl (List.map TTree.enc s_17.trees)), .d (.int .i8 s_17.offsets.e0), .d (.int .i8 s_17.offsets.e1), .d (.int .i8 s_17.offsets.e2), .d (.int .i8 s_17.offsets.e3), .d (.sl (List.map TSync.enc s_17.syncs)), .d (.int .u8 s_17.wrong)], []) (by kernel_rfl) ?_
        refine l_det (some 23) (.one (.d (.int .i64 v1112)), []) (by kernel_rfl) ?_
        refine l_det (some 25) (.agg [.d (.sl (List.map TTree.enc s_17.trees)), .d (.int .i8 s_17.offsets.e0), .d (.int .i8 s_17.offsets.e1), .d (.int .i8 s_17.offsets.e2), .d (.int .i8 s_17.offsets.e3), .d (.sl (List.map TSync.enc s_17.syncs)), .d (.int .u8 s_17.wrong)], []) (by kernel_rfl) ?_
        refine l_det (some 26) (.one (.d (.int .i64 v1112)), []) (by kernel_rfl) ?_
        refine l_det (some 5) (.one (.ref 5 1 0 0), [(5, 1, .row true 53 3 [[.d (.int .i64 0), .d (.int .i64 0), .nils]])]) (by kernel_rfl) ?_
        refine l_call ok41 en41 (some 24) [.agg [.d (.sl (List.map TTree.enc s_17.trees)), .d (.int .i8 s_17.offsets.e0), .d (.int .i8 s_17.offsets.e1), .d (.int .i8 s_17.offsets.e2), .d (.int .i8 s_17.offsets.e3), .d (.sl (List.map TSync.enc s_17.syncs)), .d (.int .u8 s_17.wrong)], .one (.d (.int .i64 v1112))] [false, false] [.agg (List.map RC.d [.sl (List.map TTree.enc s_17.trees), .int .i8 s_17.offsets.e0, .int .i8 s_17.offsets.e1, .int .i8 s_17.offsets.e2, .int .i8 s_17.offsets.e3, .sl (List.map TSync.enc s_17.syncs), .int .u8 s_17.wrong]), .one (.d (.int .i64 v1112))] [] (by kernel_rfl) ⟨by kernel_rfl, by kernel_rfl⟩ (by kernel_rfl) (by kernel_rfl) (by kernel_rfl) (cl41 s_17 v1112 h) ?_
        rintro hR _ _ ⟨r1422, rfl, rfl, h⟩
        refine ⟨false, (.one (.d (.int .i64 r1422)), []), (fun hz => (by cases hz)), (ret_R hR (by kernel_rfl)), ?_⟩
        refine l_call ok42 en42 (some 27) [.agg [.d (.sl (List.map TTree.enc s_17.trees)), .d (.int .i8 s_17.offsets.e0), .d (.int .i8 s_17.offsets.e1), .d (.int .i8 s_17.offsets.e2), .d (.int .i8 s_17.offsets.e3), .d (.sl (List.map TSync.enc s_17.syncs)), .d (.int .u8 s_17.wrong)], .one (.d (.int .i64 v1112)), .one (.d (.bool false))] [false, false, false] [.agg (List.map RC.d [.sl (List.map TTree.enc s_17.trees), .int .i8 s_17.offsets.e0, .int .i8 s_17.offsets.e1, .int .i8 s_17.offsets.e2, .int .i8 s_17.offsets.e3, .sl (List.map TSync.enc s_17.syncs), .int .u8 s_17.wrong]), .one (.d (.int .i64 v1112)), .one (.d (.bool false))] [] (by kernel_rfl) ⟨by kernel_rfl, by kernel_rfl⟩ (by kernel_rfl) (by kernel_rfl) (by kernel_rfl) (cl42 s_17 v1112 false h) ?_
        rintro hR _ _ ⟨r1423, rfl, rfl, h⟩
        refine ⟨false, (.one (.d (.sl (List.map TSpan.enc r1423))), []), (fun hz => (by cases hz)), (ret_R hR (by kernel_rfl)), ?_⟩
        refine l_det (some 28) (.agg [.d (.int .i64 r1422), .d (.int .i64 1), .d (.sl (List.map TSpan.enc r1423))], []) (by kernel_rfl) ?_
        refine l_det none (.tup [], [(5, 1, .row true 53 3 [[.d (.int .i64 r1422), .d (.int .i64 1), .d (.sl (List.map TSpan.enc r1423))]])]) (by kernel_rfl) ?_
        refine l_nil ?_
        refine AW.sregL [(0, none), (1, none), (2, none)] (by kernel_rfl) ?_
        refine l_det (some 29) (.one (.view 200002 0 0 ((List.map TTrace.enc v1111).length)), []) (by kernel_rfl) ?_
        refine l_spec (some 30) (.lens (.t 29)) (.one (.d (.int .i64 (v1111.length : Int))), []) (by kernel_rfl) (detA_none (d_lens_v (enc := TTrace.enc) (o := 200002) (g := 0) v1111 (by kernel_rfl))) ?_
        refine l_det (some 6) (.one (.d (.int .i64 (v1111.length : Int))), []) (by kernel_rfl) ?_
        refine l_nil ?_
        refine AW.seq ?_
        refine AW.blk ?_
        refine AW.loopL (S := Int) (fun s => (fun (v1458 : Int) => [(1, .one (.ref 200001 0 0 0)), (3, .one (.view 200002 0 0 ((List.map TTrace.enc v1111).length))), (4, .one (.d (.int .i64 v1112))), (5, .one (.ref 200003 0 0 0)), (6, .one (.d (.int .i64 v1458)))]) s) (fun s => (fun (v1458 : Int) => [(200001, .expl true 27 7 [[.d (.sl (List.map TTree.enc s_17.trees)), .d (.int .i8 s_17.offsets.e0), .d (.int .i8 s_17.offsets.e1), .d (.int .i8 s_17.offsets.e2), .d (.int .i8 s_17.offsets.e3), .d (.sl (List.map TSync.enc s_17.syncs)), .d (.int .u8 s_17.wrong)]]), (200002, .pure true 53 3 (List.map TTrace.enc v1111)), (200003, .expl true 53 3 [[.d (.int .i64 r1422), .d (.int .i64 1), .d (.sl (List.map TSpan.enc r1423))]])]) s) (fun (s : Int) N1467 => L17_3 v1111 r1422 r1423 N1294 v1112 s N1467) (N := fun s => LoopW (fun (s : Int) N1467 => L17_3 v1111 r1422 r1423 N1294 v1112 s N1467) s) (Lab.mk (v1111.length : Int) [(200001, some 200001), (200002, some 200002), (200003, some 5)] (by kernel_rfl) (by kernel_rfl) (by kernel_rfl) (by kernel_rfl) h) (fun _ h => h) ?_
        rintro v1458 N1467 h
        have h : L17_3 v1111 r1422 r1423 N1294 v1112 v1458 N1467 := h
        unfold L17_3 at h
        refine AW.seq ?_
        refine AW.seqL (S := Bool) (fun s => (fun (v1474 : Bool) => [(1, .one (.ref 200001 0 0 0)), (3, .one (.view 200002 0 0 ((List.map TTrace.enc v1111).length))), (4, .one (.d (.int .i64 v1112))), (5, .one (.ref 200003 0 0 0)), (6, .one (.d (.int .i64 v1458))), (43, .one (.d (.bool v1474)))]) s) (fun s => (fun (v1474 : Bool) => [(200001, .expl true 27 7 [[.d (.sl (List.map TTree.enc s_17.trees)), .d (.int .i8 s_17.offsets.e0), .d (.int .i8 s_17.offsets.e1), .d (.int .i8 s_17.offsets.e2), .d (.int .i8 s_17.offsets.e3), .d (.sl (List.map TSync.enc s_17.syncs)), .d (.int .u8 s_17.wrong)]]), (200002, .pure true 53 3 (List.map TTrace.enc v1111)), (200003, .expl true 53 3 [[.d (.int .i64 r1422), .d (.int .i64 1), .d (.sl (List.map TSpan.enc r1423))]])]) s) (fun s : Bool => J17_4 N1467 v1458 v1111 r1422 r1423 N1294 v1112 s) ?_ ?_
        · refine AW.regdL follows_mixed [[], [0], [0, 1], [0, 1, 2], [0, 1, 2], [0, 1, 2, 4], [0, 1, 2, 3, 4, 5], [0, 1, 2, 3, 4, 5, 6], [0, 1, 2, 3, 4, 5, 6, 7], [0, 1, 2], [0, 1, 2, 9], [0, 1, 2, 3, 4, 5, 6, 7, 8, 9, 10], [0, 1, 2, 3, 4, 5, 6, 7, 8, 9, 10, 11]] [(0, none), (1, none), (2, none), (3, none), (4, none), (5, none), (6, none), (7, none), (8, none), (9, none), (10, none), (11, none), (12, none)] (by kernel_rfl) ?_
          refine l_det (some 31) (.one (.d (.int .i64 v1458)), []) (by kernel_rfl) ?_
          refine l_det (some 32) (.one (.d (.bool (decide (v1458 > 0)))), []) (by kernel_rfl) ?_
          refine l_det (some 33) (.one (.d (.bool (decide (v1458 > 0)))), []) (by kernel_rfl) ?_
          refine l_split (s := 33) (by kernel_rfl) h (fun h => ?_) (fun h => ?_)
          · refine l_det (some 34) (.one (.view 200002 0 0 ((List.map TTrace.enc v1111).length)), []) (by kernel_rfl) ?_
            refine l_det (some 35) (.one (.d (.int .i64 v1458)), []) (by kernel_rfl) ?_
            refine l_det (some 36) (.one (.d (.int .i64 (w64 (v1458 - 1)))), []) (by kernel_rfl) ?_
            obtain ⟨h1241, x1475, h1242, h⟩ := h
            refine l_spec (some 37) (.iad 3 (.t 34) (.t 36)) (.one (.ref 200002 0 ((w64 (v1458 - 1)).toNat) 0), []) (by kernel_rfl) (detA_none (d_iad_v (enc := TTrace.enc) (k := .i64) (E := 53) (l := true) (ys := dmm (List.map TTrace.enc v1111)) v1111 x1475 (by kernel_rfl) (by kernel_rfl) (by kernel_rfl) (by kernel_rfl) h1241 h1242)) ?_
            refine l_det (some 38) (.one (.ref 200002 0 ((w64 (v1458 - 1)).toNat) 0), []) (by kernel_rfl) ?_
            refine l_spec (some 39) (.ld false 1 (.t 38)) (.one (.d (.int .i64 x1475.id)), []) (by kernel_rfl) (detA_none (d_ld_row (enc := TTrace.enc) (o := 200002) (g := 0) (i := ((w64 (v1458 - 1)).toNat)) (off := 0) (E := 53) (sz := 3) (l := true) v1111 x1475 (by kernel_rfl) (by kernel_rfl) (by kernel_rfl) h1242 (by kernel_rfl))) ?_
            refine l_det (some 40) (.one (.ref 200003 0 0 0), []) (by kernel_rfl) ?_
            refine l_det (some 41) (.one (.d (.int .i64 r1422)), []) (by kernel_rfl) ?_
            refine l_det (some 42) (.one (.d (.bool (decide (x1475.id > r1422)))), []) (by kernel_rfl) ?_
            refine l_det (some 43) (.one (.d (.bool (decide (x1475.id > r1422)))), []) (by kernel_rfl) ?_
            refine l_nil ?_
            refine q_fall ?_
            exact Lab.mk (decide (x1475.id > r1422)) [(200001, some 200001), (200002, some 200002), (200003, some 200003)] (by kernel_rfl) (by kernel_rfl) (by kernel_rfl) (by kernel_rfl) h
          · refine l_det (some 34) (.tup [], []) (by kernel_rfl) ?_
            refine l_det (some 35) (.tup [], []) (by kernel_rfl) ?_
            refine l_det (some 36) (.tup [], []) (by kernel_rfl) ?_
            refine l_det (some 37) (.tup [], []) (by kernel_rfl) ?_
            refine l_det (some 38) (.tup [], []) (by kernel_rfl) ?_
            refine l_det (some 39) (.tup [], []) (by kernel_rfl) ?_
            refine l_det (some 40) (.tup [], []) (by kernel_rfl) ?_
            refine l_det (some 41) (.tup [], []) (by kernel_rfl) ?_
            refine l_det (some 42) (.tup [], []) (by kernel_rfl) ?_
            refine l_det (some 43) (.one (.d (.bool false)), []) (by kernel_rfl) ?_
            refine l_nil ?_
            refine q_fall ?_
            exact Lab.mk false [(200001, some 200001), (200002, some 200002), (200003, some 200003)] (by kernel_rfl) (by kernel_rfl) (by kernel_rfl) (by kernel_rfl) h
        · rintro v1474 h
          have h : J17_4 N1467 v1458 v1111 r1422 r1423 N1294 v1112 v1474 := h
          unfold J17_4 at h
          refine AW.cond' (by kernel_rfl) h (fun h => ?_) (fun h => ?_)
          · refine AW.skip ?_
            refine q_fall ?_
            refine AW.blk ?_
            refine AW.regL [(0, none), (1, none), (2, none)] (by kernel_rfl) ?_
            refine l_det (some 44) (.one (.d (.int .i64 v1458)), []) (by kernel_rfl) ?_
            refine l_det (some 45) (.one (.d (.int .i64 (w64 (v1458 - 1)))), []) (by kernel_rfl) ?_
            refine l_det (some 6) (.one (.d (.int .i64 (w64 (v1458 - 1)))), []) (by kernel_rfl) ?_
            refine l_nil ?_
            refine q_bfall ?_
            refine q_fall ?_
            exact Lab.mk (w64 (v1458 - 1)) [(200001, some 200001), (200002, some 200002), (200003, some 200003)] (by kernel_rfl) (by kernel_rfl) (by kernel_rfl) (by kernel_rfl) h
          · refine AW.exit ?_
            refine q_exit ?_
            refine q_exit ?_
            refine q_bhere ?_
            refine q_fall ?_
            refine AW.regdL follows_mixed [[], [], [], [1, 2], [0, 1, 2, 3], [], [5], [0, 1, 2, 3, 4, 5, 6], [], [], [8, 9], [0, 1, 2, 3, 4, 5, 6, 7, 8, 9, 10], [0, 1, 2, 3, 4, 5, 6, 7, 8, 9, 10, 11]] [(1, none), (2, none), (3, some [49, 1200002]), (5, some [51, 1200002, 1200003]), (8, none), (9, none), (10, some [56, 1200002]), (0, some [46]), (4, some [46, 50, 1200002]), (6, some [52]), (7, some [46, 53, 1000052]), (11, none), (12, none)] (by kernel_rfl) ?_
            refine l_det (some 47) (.one (.view 200002 0 0 ((List.map TTrace.enc v1111).length)), []) (by kernel_rfl) ?_
            refine l_det (some 48) (.one (.d (.int .i64 v1458)), []) (by kernel_rfl) ?_
            obtain ⟨h1232, h1233, h⟩ := h
            refine l_spec (some 49) (.slc 3 (.t 47) none (some (.t 48)) none) (.one (.view 200002 0 0 (v1458.toNat - 0)), []) (by kernel_rfl) (detA_some (d_slc_vf (enc := TTrace.enc) (E := 53) (l := true) (ys := dmm (List.map TTrace.enc v1111)) (lo' := none) (hi' := (some v1458)) v1111 (by kernel_rfl) (by kernel_rfl) (by kernel_rfl) (by kernel_rfl) (by kernel_rfl) (b_hi h1232 h1233)) (by kernel_rfl)) ?_
            refine l_det (some 51) (.agg [.d (.int .i64 r1422), .d (.int .i64 1), .d (.sl (List.map TSpan.enc r1423))], []) (by kernel_rfl) ?_
            refine l_det (some 54) (.one (.view 200002 0 0 ((List.map TTrace.enc v1111).length)), []) (by kernel_rfl) ?_
            refine l_det (some 55) (.one (.d (.int .i64 v1458)), []) (by kernel_rfl) ?_
            obtain ⟨h1235, h1236, h⟩ := h
            refine l_spec (some 56) (.slc 3 (.t 54) (some (.t 55)) none none) (.one (.view 200002 0 v1458.toNat (v1111.length - v1458.toNat)), []) (by kernel_rfl) (detA_some (d_slc_vf (enc := TTrace.enc) (E := 53) (l := true) (ys := dmm (List.map TTrace.enc v1111)) (lo' := (some v1458)) (hi' := none) v1111 (by kernel_rfl) (by kernel_rfl) (by kernel_rfl) (by kernel_rfl) (by kernel_rfl) (b_lo h1235 h1236)) (by kernel_rfl)) ?_
            refine l_det (some 46) (.one (.view 46 1 0 0), [(46, 1, .row true 53 3 [])]) (by kernel_rfl) ?_
            obtain ⟨h1238, h⟩ := h
            refine l_spec (some 50) (.app 53 3 40 [.int .i64 0, .int .i64 0, .nils] (.t 46) (.t 49)) (.one (.view 46 2 0 ((List.map TTrace.enc ([] ++ (List.take (v1458.toNat - 0) (List.drop 0 v1111)))).length)), [(46, 2, .row true 53 3 (dmm (List.map TTrace.enc ([] ++ (List.take (v1458.toNat - 0) (List.drop 0 v1111))))))]) (by kernel_rfl) (detA_some (d_app_v (enc := TTrace.enc) (xc := .view 200002 0 0 (v1458.toNat - 0)) [] (List.take (v1458.toNat - 0) (List.drop 0 v1111)) (by kernel_rfl) (by kernel_rfl) (by kernel_rfl) (by kernel_rfl) (e_part (E := 53) (l := true) v1111 (by kernel_rfl) (by kernel_rfl) (by simp only [List.length_map] at *; omega)) h1238 (by kernel_rfl)) (by kernel_rfl)) ?_
            refine l_det (some 52) (.one (.view 52 1 0 1), [(52, 1, .row true 53 3 [[.d (.int .i64 r1422), .d (.int .i64 1), .d (.sl (List.map TSpan.enc r1423))]])]) (by kernel_rfl) ?_
            obtain ⟨h1239, h⟩ := h
            refine l_spec (some 53) (.app 53 3 40 [.int .i64 0, .int .i64 0, .nils] (.t 50) (.t 52)) (.one (.view 46 3 0 ((List.map TTrace.enc (([] ++ (List.take (v1458.toNat - 0) (List.drop 0 v1111))) ++ [(TTrace.mk r1422 1 r1423)])).length)), [(46, 3, .row true 53 3 (dmm (List.map TTrace.enc (([] ++ (List.take (v1458.toNat - 0) (List.drop 0 v1111))) ++ [(TTrace.mk r1422 1 r1423)]))))]) (by kernel_rfl) (detA_some (d_app_v (enc := TTrace.enc) (xc := .view 52 1 0 1) ([] ++ (List.take (v1458.toNat - 0) (List.drop 0 v1111))) [(TTrace.mk r1422 1 r1423)] (by kernel_rfl) (by kernel_rfl) (by kernel_rfl) (by kernel_rfl) (by kernel_rfl) h1239 (by kernel_rfl)) (by kernel_rfl)) ?_
            obtain ⟨h1240, h⟩ := h
            refine l_spec (some 57) (.app 53 3 40 [.int .i64 0, .int .i64 0, .nils] (.t 53) (.t 56)) (.one (.view 46 4 0 ((List.map TTrace.enc ((([] ++ (List.take (v1458.toNat - 0) (List.drop 0 v1111))) ++ [(TTrace.mk r1422 1 r1423)]) ++ (List.take (v1111.length - v1458.toNat) (List.drop v1458.toNat v1111)))).length)), [(46, 4, .row true 53 3 (dmm (List.map TTrace.enc ((([] ++ (List.take (v1458.toNat - 0) (List.drop 0 v1111))) ++ [(TTrace.mk r1422 1 r1423)]) ++ (List.take (v1111.length - v1458.toNat) (List.drop v1458.toNat v1111))))))]) (by kernel_rfl) (detA_none (d_app_v (enc := TTrace.enc) (xc := .view 200002 0 v1458.toNat (v1111.length - v1458.toNat)) (([] ++ (List.take (v1458.toNat - 0) (List.drop 0 v1111))) ++ [(TTrace.mk r1422 1 r1423)]) (List.take (v1111.length - v1458.toNat) (List.drop v1458.toNat v1111)) (by kernel_rfl) (by kernel_rfl) (by kernel_rfl) (by kernel_rfl) (e_part (E := 53) (l := true) v1111 (by kernel_rfl) (by kernel_rfl) (by simp only [List.length_map] at *; omega)) h1240 (by kernel_rfl))) ?_
            refine l_det (some 3) (.one (.view 46 4 0 ((List.map TTrace.enc ((([] ++ (List.take (v1458.toNat - 0) (List.drop 0 v1111))) ++ [(TTrace.mk r1422 1 r1423)]) ++ (List.take (v1111.length - v1458.toNat) (List.drop v1458.toNat v1111)))).length)), []) (by kernel_rfl) ?_
            refine l_nil ?_
            refine q_bfall ?_
            refine q_fall ?_
            exact Lab.mk ((([] ++ (List.take (v1458.toNat - 0) (List.drop 0 v1111))) ++ [(TTrace.mk r1422 1 r1423)]) ++ (List.take (v1111.length - v1458.toNat) (List.drop v1458.toNat v1111))) [(200001, some 200001), (200002, some 46)] (by kernel_rfl) (by kernel_rfl) (by kernel_rfl) (by kernel_rfl) h
    · rintro v1415 h
      have h : J17_2 N1294 v1112 v1415 := h
      unfold J17_2 at h
      refine AW.regL [(0, none), (1, none), (2, none)] (by kernel_rfl) ?_
      refine l_det (some 12) (.one (.d (.int .i64 v1112)), []) (by kernel_rfl) ?_
      refine l_det (some 13) (.one (.d (.int .i64 (w64 (v1112 + 1)))), []) (by kernel_rfl) ?_
      refine l_det (some 4) (.one (.d (.int .i64 (w64 (v1112 + 1)))), []) (by kernel_rfl) ?_
      refine l_nil ?_
      refine q_fall ?_
      exact Lab.mk (v1415, (w64 (v1112 + 1))) [(200001, some 200001), (200002, some 200002)] (by kernel_rfl) (by kernel_rfl) (by kernel_rfl) (by kernel_rfl) h
  · refine AW.exit ?_
    refine q_exit ?_
    refine q_exit ?_
    refine q_bhere ?_
    refine q_fall ?_
    refine AW.sregL [(0, none), (1, none)] (by kernel_rfl) ?_
    refine l_det (some 58) (.one (.view 200002 0 0 ((List.map TTrace.enc v1111).length)), []) (by kernel_rfl) ?_
    refine l_det (some 2) (.one (.view 200002 0 0 ((List.map TTrace.enc v1111).length)), []) (by kernel_rfl) ?_
    refine l_nil ?_
    refine AW.ret ?_
    exact q_end [.one (.view 200002 0 0 ((List.map TTrace.enc v1111).length))] [true] [.one (.own 53 3 (List.map TTrace.enc v1111))] [] [] (by kernel_rfl) (ps_own (by kernel_rfl) (by kernel_rfl) rfl ps_nil) (by kernel_rfl) (by kernel_rfl) (by kernel_rfl) (by kernel_rfl) (Eq.mp (by kernel_rfl) (hK v1111 h)) (.inr rfl)
def r13_0 : List AR := [⟨some 2, .box 27 true 7 (.t 0), [], none⟩,
  ⟨some 3, .box 28 true 3 (.t 1), [], none⟩,
  ⟨some 4, .mov (.c .nils), [], none⟩]
def r13_1 : List AR := [⟨some 7, .ld true 7 (.t 2), [], none⟩,
  ⟨some 8, .call 16 [.t 7], [0], none⟩,
  ⟨some 9, .un .not (.t 8), [1], none⟩]
def r13_2 : List AR := [⟨some 4, .mov (.c .nils), [], none⟩]
def r13_3 : List AR := [⟨some 10, .ld true 7 (.t 2), [], none⟩,
  ⟨some 11, .call 17 [.t 10], [0], none⟩,
  ⟨some 5, .mov (.t 11), [1, 1, 0, 1], none⟩]
def r13_4 : List AR := [⟨some 6, .mov (.c (.int .i64 0)), [], none⟩]
def r13_5 : List AR := [⟨some 12, .mov (.t 6), [], none⟩,
  ⟨some 13, .mov (.t 5), [], none⟩,
  ⟨some 14, .lens (.t 13), [1], none⟩,
  ⟨some 15, .bin .lss (.t 12) (.t 14), [0, 2], none⟩]
def r13_6 : List AR := [⟨some 18, .mov (.t 5), [], none⟩,
  ⟨some 19, .mov (.t 6), [], none⟩,
  ⟨some 20, .mov (.t 6), [], none⟩,
  ⟨some 21, .bin .rem (.t 20) (.c (.int .i64 3)), [2], none⟩,
  ⟨some 22, .iaa 3 1 (.t 3) (.t 21), [3], none⟩,
  ⟨some 23, .ld false 1 (.t 22), [4], none⟩,
  ⟨some 24, .bin .rem (.t 23) (.c (.int .u8 16)), [5], none⟩,
  ⟨some 25, .cvi .i64 (.t 24), [6], none⟩,
  ⟨some 26, .bin .add (.c (.int .i64 1)) (.t 25), [7], none⟩,
  ⟨some 27, .iad 3 (.t 18) (.t 19), [0, 1, 0, 1, 2, 3, 4, 5, 6, 7, 8], none⟩,
  ⟨some 28, .fad (.t 27) 1, [9, 0, 1, 2, 3, 4, 5, 6, 7, 8], none⟩,
  ⟨none, .st 1 (.t 28) (.t 26), [10, 8, 0, 1, 2, 3, 4, 5, 6, 7, 8], none⟩]
def r13_7 : List AR := [⟨some 16, .mov (.t 6), [], none⟩,
  ⟨some 17, .bin .add (.t 16) (.c (.int .i64 1)), [0], none⟩,
  ⟨some 6, .mov (.t 17), [1, 0, 1], none⟩]
def r13_8 : List AR := [⟨some 29, .mov (.t 5), [], none⟩,
  ⟨some 4, .mov (.t 29), [0, 0], none⟩]
def c13 : ACode := .seq (.reg r13_0 false) (.seq (.seq (.reg r13_1 false) (.cond (.t 9) (.seq (.reg r13_2 false) (.ret)) (.skip))) (.seq (.reg r13_3 false) (.seq (.seq (.reg r13_4 false) (.blk 0 (.loop (.seq (.seq (.reg r13_5 false) (.cond (.t 15) (.skip) (.exit 0))) (.seq (.blk 1 (.reg r13_6 false)) (.reg r13_7 false)))))) (.seq (.reg r13_8 false) (.ret)))))
theorem body13 : Try.f13.body.map (comp Try.prog 30) = some c13 := by kernel_rfl
theorem res13 : allSome (Try.f13.results.toList.map (compRes Try.prog)) = some [.s 4] := by kernel_rfl
theorem cok13 {S : FSpec} (h : ∀ args K, S args K → args.all argOk = true ∧ args.length ≤ 30 ∧ AW Try.prog 30 (some ownP) c13 (initS args) (retPost [.s 4] args K)) : COK Try.prog 13 S := of_body Try.func13 Try.ntmps13 body13 res13 h

def L13_1 (weights_13 : TA28) (K : (List TTrace) → Prop) (v1493 : List TTrace) (v1494 : Int) (N1499 : ((List TTrace) × Int) → Prop) : Prop :=
  Cond (decide (v1494 < (v1493.length : Int))) (Idx ([weights_13.e0, weights_13.e1, weights_13.e2] : List Int) (Int.tmod v1494 3) fun x1502 => Idx v1493 v1494 fun x1503 => N1499 ((List.set v1493 v1494.toNat (TTrace.mk x1503.id (w64 (1 + (w64 (Int.tmod x1502 16)))) x1503.spans)), (w64 (v1494 + 1)))) (K v1493)

/-- sleuth/sleuthlaw25.weighted -/
def W13 (s_13 : TStory) (weights_13 : TA28) (K : (List TTrace) → Prop) : Prop :=
  W16 s_13 fun r33 => Cond (!r33) (K []) (W17 s_13 fun r1477 => LoopW (fun (s : ((List TTrace) × Int)) N1499 => L13_1 weights_13 K s.1 s.2 N1499) (r1477, 0))

def S13 : FSpec := fun args K => ∃ (s_13 : TStory), ∃ (weights_13 : TA28), ∃ (Kr : (List TTrace) → Prop), args = [.agg (List.map RC.d (TStory.enc s_13)), .agg (List.map RC.d (TA28.enc weights_13))] ∧ W13 s_13 weights_13 Kr ∧ ∀ r, Kr r → K (.one (.own 53 3 (List.map TTrace.enc r))) []

theorem en13 : enters Try.prog 13 = true := by unfold enters; rw [Try.func13]; rfl
theorem cl13 (s_13 : TStory) (weights_13 : TA28) {Kr : (List TTrace) → Prop} (h : W13 s_13 weights_13 Kr) : S13 [.agg (List.map RC.d (TStory.enc s_13)), .agg (List.map RC.d (TA28.enc weights_13))] (fun rv rows => ∃ r, rv = (.one (.own 53 3 (List.map TTrace.enc r))) ∧ rows = [] ∧ Kr r) := ⟨s_13, weights_13, Kr, rfl, h, fun r hr => ⟨r, rfl, rfl, hr⟩⟩

theorem ok13 : COK Try.prog 13 S13 := by
  refine cok13 fun args K0 hS => ?_
  obtain ⟨s_13, weights_13, K, rfl, h, hK⟩ := hS
  refine ⟨by kernel_rfl, by simp, ?_⟩
  unfold W13 at h
  refine AW.sregL [(0, none), (1, none), (2, none)] (by kernel_rfl) ?_
  refine l_det (some 2) (.one (.ref 2 1 0 0), [(2, 1, .row true 27 7 [[.d (.sl (List.map TTree.enc s_13.trees)), .d (.int .i8 s_13.offsets.e0), .d (.int .i8 s_13.offsets.e1), .d (.int .i8 s_13.offsets.e2), .d (.int .i8 s_13.offsets.e3), .d (.sl (List.map TSync.enc s_13.syncs)), .d (.int .u8 s_13.wrong)]])]) (by kernel_rfl) ?_
  refine l_det (some 3) (.one (.ref 3 1 0 0), [(3, 1, .row true 28 3 [[.d (.int .u8 weights_13.e0), .d (.int .u8 weights_13.e1), .d (.int .u8 weights_13.e2)]])]) (by kernel_rfl) ?_
  refine l_det (some 4) (.one (.nils), []) (by kernel_rfl) ?_
  refine l_nil ?_
  refine AW.seq ?_
  refine AW.sregL [(0, none), (1, none), (2, none)] (by kernel_rfl) ?_
  refine l_det (some 7) (.agg [.d (.sl (List.map TTree.enc s_13.trees)), .d (.int .i8 s_13.offsets.e0), .d (.int .i8 s_13.offsets.e1), .d (.int .i8 s_13.offsets.e2), .d (.int .i8 s_13.offsets.e3), .d (.sl (List.map TSync.enc s_13.syncs)), .d (.int .u8 s_13.wrong)], []) (by kernel_rfl) ?_
  refine l_call ok16 en16 (some 8) [.agg [.d (.sl (List.map TTree.enc s_13.trees)), .d (.int .i8 s_13.offsets.e0), .d (.int .i8 s_13.offsets.e1), .d (.int .i8 s_13.offsets.e2), .d (.int .i8 s_13.offsets.e3), .d (.sl (List.map TSync.enc s_13.syncs)), .d (.int .u8 s_13.wrong)]] [false] [.agg (List.map RC.d [.sl (List.map TTree.enc s_13.trees), .int .i8 s_13.offsets.e0, .int .i8 s_13.offsets.e1, .int .i8 s_13.offsets.e2, .int .i8 s_13.offsets.e3, .sl (List.map TSync.enc s_13.syncs), .int .u8 s_13.wrong])] [] (by kernel_rfl) ⟨by kernel_rfl, by kernel_rfl⟩ (by kernel_rfl) (by kernel_rfl) (by kernel_rfl) (cl16 s_13 h) ?_
  rintro hR _ _ ⟨r33, rfl, rfl, h⟩
  refine ⟨false, (.one (.d (.bool r33)), []), (fun hz => (by cases hz)), (ret_R hR (by kernel_rfl)), ?_⟩
  refine l_det (some 9) (.one (.d (.bool (!r33))), []) (by kernel_rfl) ?_
  refine l_nil ?_
  refine AW.cond' (by kernel_rfl) h (fun h => ?_) (fun h => ?_)
  · refine AW.sregL [(0, none)] (by kernel_rfl) ?_
    refine l_det (some 4) (.one (.nils), []) (by kernel_rfl) ?_
    refine l_nil ?_
    refine AW.sim (F := [(299999, none)]) (T := [(4, .one (.view 299999 0 0 ((List.map TTrace.enc []).length)))]) (O := [(299999, .pure true 53 3 (List.map TTrace.enc []))]) ⟨by kernel_rfl, by kernel_rfl, by kernel_rfl, by kernel_rfl⟩ ?_
    refine AW.ret ?_
    refine q_ret ?_
    exact q_end [.one (.view 299999 0 0 ((List.map TTrace.enc []).length))] [true] [.one (.own 53 3 (List.map TTrace.enc []))] [] [] (by kernel_rfl) (ps_own (by kernel_rfl) (by kernel_rfl) rfl ps_nil) (by kernel_rfl) (by kernel_rfl) (by kernel_rfl) (by kernel_rfl) (Eq.mp (by kernel_rfl) (hK [] h)) (.inr rfl)
  · refine AW.skip ?_
    refine q_fall ?_
    refine AW.sregL [(0, none), (1, none), (2, none)] (by kernel_rfl) ?_
    refine l_det (some 10) (.agg [.d (.sl (List.map TTree.enc s_13.trees)), .d (.int .i8 s_13.offsets.e0), .d (.int .i8 s_13.offsets.e1), .d (.int .i8 s_13.offsets.e2), .d (.int .i8 s_13.offsets.e3), .d (.sl (List.map TSync.enc s_13.syncs)), .d (.int .u8 s_13.wrong)], []) (by kernel_rfl) ?_
    refine l_call ok17 en17 (some 11) [.agg [.d (.sl (List.map TTree.enc s_13.trees)), .d (.int .i8 s_13.offsets.e0), .d (.int .i8 s_13.offsets.e1), .d (.int .i8 s_13.offsets.e2), .d (.int .i8 s_13.offsets.e3), .d (.sl (List.map TSync.enc s_13.syncs)), .d (.int .u8 s_13.wrong)]] [false] [.agg (List.map RC.d [.sl (List.map TTree.enc s_13.trees), .int .i8 s_13.offsets.e0, .int .i8 s_13.offsets.e1, .int .i8 s_13.offsets.e2, .int .i8 s_13.offsets.e3, .sl (List.map TSync.enc s_13.syncs), .int .u8 s_13.wrong])] [] (by kernel_rfl) ⟨by kernel_rfl, by kernel_rfl⟩ (by kernel_rfl) (by kernel_rfl) (by kernel_rfl) (cl17 s_13 h) ?_
    rintro hR _ _ ⟨r1477, rfl, rfl, h⟩
    refine ⟨false, (.one (.view 11 1 0 ((List.map TTrace.enc r1477).length)), [(11, 1, .row true 53 3 (dmm (List.map TTrace.enc r1477)))]), (fun hz => (by cases hz)), (ret_R hR (by kernel_rfl)), ?_⟩
    refine l_det (some 5) (.one (.view 11 1 0 ((List.map TTrace.enc r1477).length)), []) (by kernel_rfl) ?_
    refine l_nil ?_
    refine AW.seq ?_
    refine AW.sregL [(0, none)] (by kernel_rfl) ?_
    refine l_det (some 6) (.one (.d (.int .i64 0)), []) (by kernel_rfl) ?_
    refine l_nil ?_
    refine AW.blk ?_
    refine AW.loopL (S := ((List TTrace) × Int)) (fun s => (fun (v1493 : List TTrace) (v1494 : Int) => [(3, .one (.ref 200001 0 0 0)), (5, .one (.view 200002 0 0 ((List.map TTrace.enc v1493).length))), (6, .one (.d (.int .i64 v1494)))]) s.1 s.2) (fun s => (fun (v1493 : List TTrace) (v1494 : Int) => [(200001, .expl true 28 3 [[.d (.int .u8 weights_13.e0), .d (.int .u8 weights_13.e1), .d (.int .u8 weights_13.e2)]]), (200002, .pure true 53 3 (List.map TTrace.enc v1493))]) s.1 s.2) (fun (s : ((List TTrace) × Int)) N1499 => L13_1 weights_13 K s.1 s.2 N1499) (N := fun s => LoopW (fun (s : ((List TTrace) × Int)) N1499 => L13_1 weights_13 K s.1 s.2 N1499) s) (Lab.mk (r1477, 0) [(200001, some 3), (200002, some 11)] (by kernel_rfl) (by kernel_rfl) (by kernel_rfl) (by kernel_rfl) h) (fun _ h => h) ?_
    rintro ⟨v1493, v1494⟩ N1499 h
    have h : L13_1 weights_13 K v1493 v1494 N1499 := h
    unfold L13_1 at h
    refine AW.seq ?_
    refine AW.sregL [(0, none), (1, none), (2, none), (3, none)] (by kernel_rfl) ?_
    refine l_det (some 12) (.one (.d (.int .i64 v1494)), []) (by kernel_rfl) ?_
    refine l_det (some 13) (.one (.view 200002 0 0 ((List.map TTrace.enc v1493).length)), []) (by kernel_rfl) ?_
    refine l_spec (some 14) (.lens (.t 13)) (.one (.d (.int .i64 (v1493.length : Int))), []) (by kernel_rfl) (detA_none (d_lens_v (enc := TTrace.enc) (o := 200002) (g := 0) v1493 (by kernel_rfl))) ?_
    refine l_det (some 15) (.one (.d (.bool (decide (v1494 < (v1493.length : Int))))), []) (by kernel_rfl) ?_
    refine l_nil ?_
    refine AW.cond' (by kernel_rfl) h (fun h => ?_) (fun h => ?_)
    · refine AW.skip ?_
      refine q_fall ?_
      refine AW.seq ?_
      refine AW.blk ?_
      refine AW.regL [(0, none), (1, none), (2, none), (3, none), (4, none), (5, none), (6, none), (7, none), (8, none), (9, none), (10, none), (11, none)] (by kernel_rfl) ?_
      refine l_det (some 18) (.one (.view 200002 0 0 ((List.map TTrace.enc v1493).length)), []) (by kernel_rfl) ?_
      refine l_det (some 19) (.one (.d (.int .i64 v1494)), []) (by kernel_rfl) ?_
      refine l_det (some 20) (.one (.d (.int .i64 v1494)), []) (by kernel_rfl) ?_
      refine l_det (some 21) (.one (.d (.int .i64 (Int.tmod v1494 3))), []) (by kernel_rfl) ?_
      obtain ⟨h54, x1502, h55, h⟩ := h
      refine l_spec (some 22) (.iaa 3 1 (.t 3) (.t 21)) (.one (.ref 200001 0 0 (0 + (Int.tmod v1494 3).toNat * 1)), []) (by kernel_rfl) (detA_none (d_iaa_ref (k := .i64) [weights_13.e0, weights_13.e1, weights_13.e2] (by kernel_rfl) (by kernel_rfl) h54 h55 (by kernel_rfl))) ?_
      refine l_spec (some 23) (.ld false 1 (.t 22)) (.one (.d (.int .u8 x1502)), []) (by kernel_rfl) (detA_none (d_ld_arr (o := 200001) (g := 0) (i := 0) (off := 0) (kk := (Int.tmod v1494 3).toNat) (E := 28) (sz := 3) (l := true) (rows := [[.d (.int .u8 weights_13.e0), .d (.int .u8 weights_13.e1), .d (.int .u8 weights_13.e2)]]) (cs := [.d (.int .u8 weights_13.e0), .d (.int .u8 weights_13.e1), .d (.int .u8 weights_13.e2)]) (rest := []) [weights_13.e0, weights_13.e1, weights_13.e2] x1502 (by kernel_rfl) (by kernel_rfl) (by kernel_rfl) (by kernel_rfl) (by kernel_rfl) h55)) ?_
      refine l_det (some 24) (.one (.d (.int .u8 (Int.tmod x1502 16))), []) (by kernel_rfl) ?_
      refine l_det (some 25) (.one (.d (.int .i64 (w64 (Int.tmod x1502 16)))), []) (by kernel_rfl) ?_
      refine l_det (some 26) (.one (.d (.int .i64 (w64 (1 + (w64 (Int.tmod x1502 16)))))), []) (by kernel_rfl) ?_
      obtain ⟨h56, x1503, h57, h⟩ := h
      refine l_spec (some 27) (.iad 3 (.t 18) (.t 19)) (.one (.ref 200002 0 v1494.toNat 0), []) (by kernel_rfl) (detA_none (d_iad_v (enc := TTrace.enc) (k := .i64) (E := 53) (l := true) (ys := dmm (List.map TTrace.enc v1493)) v1493 x1503 (by kernel_rfl) (by kernel_rfl) (by kernel_rfl) (by kernel_rfl) h56 h57)) ?_
      refine l_det (some 28) (.one (.ref 200002 0 v1494.toNat 1), []) (by kernel_rfl) ?_
      have h58 := set_get (TTrace.mk x1503.id (w64 (1 + (w64 (Int.tmod x1502 16)))) x1503.spans) h57
      refine l_spec none (.st 1 (.t 28) (.t 26)) (.tup [], [(200002, 0, .row true 53 3 (dmm (List.map TTrace.enc (List.set v1493 v1494.toNat (TTrace.mk x1503.id (w64 (1 + (w64 (Int.tmod x1502 16)))) x1503.spans)))))]) (by kernel_rfl) (detA_none (d_st_row (enc := TTrace.enc) (i := v1494.toNat) (off := 1) (vs := [.d (.int .i64 (w64 (1 + (w64 (Int.tmod x1502 16)))))]) v1493 x1503 (TTrace.mk x1503.id (w64 (1 + (w64 (Int.tmod x1502 16)))) x1503.spans) (by kernel_rfl) (by kernel_rfl) (by kernel_rfl) h57 (by kernel_rfl) (by kernel_rfl) (by kernel_rfl))) ?_
      refine l_renorm 5 (.one (.view 200002 0 0 ((List.map TTrace.enc (List.set v1493 v1494.toNat (TTrace.mk x1503.id (w64 (1 + (w64 (Int.tmod x1502 16)))) x1503.spans))).length))) (Eq.trans (b := .one (.view 200002 0 0 ((List.map TTrace.enc v1493).length))) (by kernel_rfl) (by simp only [List.length_map, List.length_set, List.length_cons, List.length_nil])) ?_
      refine l_nil ?_
      refine q_bfall ?_
      refine q_fall ?_
      refine AW.regL [(0, none), (1, none), (2, none)] (by kernel_rfl) ?_
      refine l_det (some 16) (.one (.d (.int .i64 v1494)), []) (by kernel_rfl) ?_
      refine l_det (some 17) (.one (.d (.int .i64 (w64 (v1494 + 1)))), []) (by kernel_rfl) ?_
      refine l_det (some 6) (.one (.d (.int .i64 (w64 (v1494 + 1)))), []) (by kernel_rfl) ?_
      refine l_nil ?_
      refine q_fall ?_
      exact Lab.mk ((List.set v1493 v1494.toNat (TTrace.mk x1503.id (w64 (1 + (w64 (Int.tmod x1502 16)))) x1503.spans)), (w64 (v1494 + 1))) [(200001, some 200001), (200002, some 200002)] (by kernel_rfl) (by kernel_rfl) (by kernel_rfl) (by kernel_rfl) h
    · refine AW.exit ?_
      refine q_exit ?_
      refine q_exit ?_
      refine q_bhere ?_
      refine q_fall ?_
      refine AW.sregL [(0, none), (1, none)] (by kernel_rfl) ?_
      refine l_det (some 29) (.one (.view 200002 0 0 ((List.map TTrace.enc v1493).length)), []) (by kernel_rfl) ?_
      refine l_det (some 4) (.one (.view 200002 0 0 ((List.map TTrace.enc v1493).length)), []) (by kernel_rfl) ?_
      refine l_nil ?_
      refine AW.ret ?_
      exact q_end [.one (.view 200002 0 0 ((List.map TTrace.enc v1493).length))] [true] [.one (.own 53 3 (List.map TTrace.enc v1493))] [] [] (by kernel_rfl) (ps_own (by kernel_rfl) (by kernel_rfl) rfl ps_nil) (by kernel_rfl) (by kernel_rfl) (by kernel_rfl) (by kernel_rfl) (Eq.mp (by kernel_rfl) (hK v1493 h)) (.inr rfl)
def r43_0 : List AR := [⟨some 2, .mov (.c (.int .i64 0)), [], none⟩]
def r43_1 : List AR := [⟨some 3, .mov (.t 0), [], none⟩,
  ⟨some 4, .bin .shr (.t 3) (.c (.int .u64 20)), [0], none⟩,
  ⟨some 2, .mov (.t 4), [1, 0, 1], none⟩]
def c43 : ACode := .seq (.reg r43_0 false) (.seq (.reg r43_1 false) (.ret))
theorem body43 : Try.f43.body.map (comp Try.prog 5) = some c43 := by kernel_rfl
theorem res43 : allSome (Try.f43.results.toList.map (compRes Try.prog)) = some [.s 2] := by kernel_rfl
theorem cok43 {S : FSpec} (h : ∀ args K, S args K → args.all argOk = true ∧ args.length ≤ 5 ∧ AW Try.prog 5 (some ownP) c43 (initS args) (retPost [.s 2] args K)) : COK Try.prog 43 S := of_body Try.func43 Try.ntmps43 body43 res43 h

/-- sleuth/span.Slot -/
def W43 (trace_43 : Int) (K : Int → Prop) : Prop :=
  K (Int.fdiv trace_43 (2 ^ 20))

def S43 : FSpec := fun args K => ∃ (trace_43 : Int), ∃ (Kr : Int → Prop), args = [.one (.d (.int .i64 trace_43))] ∧ W43 trace_43 Kr ∧ ∀ r, Kr r → K (.one (.d (.int .i64 r))) []

theorem en43 : enters Try.prog 43 = true := by unfold enters; rw [Try.func43]; rfl
theorem cl43 (trace_43 : Int) {Kr : Int → Prop} (h : W43 trace_43 Kr) : S43 [.one (.d (.int .i64 trace_43))] (fun rv rows => ∃ r, rv = (.one (.d (.int .i64 r))) ∧ rows = [] ∧ Kr r) := ⟨trace_43, Kr, rfl, h, fun r hr => ⟨r, rfl, rfl, hr⟩⟩

theorem ok43 : COK Try.prog 43 S43 := by
  refine cok43 fun args K0 hS => ?_
  obtain ⟨trace_43, K, rfl, h, hK⟩ := hS
  refine ⟨by kernel_rfl, by simp, ?_⟩
  unfold W43 at h
  refine AW.sregL [(0, none)] (by kernel_rfl) ?_
  refine l_det (some 2) (.one (.d (.int .i64 0)), []) (by kernel_rfl) ?_
  refine l_nil ?_
  refine AW.sregL [(0, none), (1, none), (2, none)] (by kernel_rfl) ?_
  refine l_det (some 3) (.one (.d (.int .i64 trace_43)), []) (by kernel_rfl) ?_
  refine l_det (some 4) (.one (.d (.int .i64 (Int.fdiv trace_43 (2 ^ 20)))), []) (by kernel_rfl) ?_
  refine l_det (some 2) (.one (.d (.int .i64 (Int.fdiv trace_43 (2 ^ 20)))), []) (by kernel_rfl) ?_
  refine l_nil ?_
  refine AW.ret ?_
  exact q_end [.one (.d (.int .i64 (Int.fdiv trace_43 (2 ^ 20))))] [false] [.one (.d (.int .i64 (Int.fdiv trace_43 (2 ^ 20))))] [] [] (by kernel_rfl) ⟨by kernel_rfl, by kernel_rfl⟩ (by kernel_rfl) (by kernel_rfl) (by kernel_rfl) (by kernel_rfl) (Eq.mp (by kernel_rfl) (hK (Int.fdiv trace_43 (2 ^ 20)) h)) (.inr rfl)
def r18_0 : List AR := [⟨some 2, .mov (.c (.int .i64 0)), [], none⟩]
def r18_1 : List AR := [⟨some 3, .mov (.t 0), [], none⟩,
  ⟨some 4, .call 43 [.t 3], [0], none⟩,
  ⟨some 5, .bin .shr (.t 4) (.c (.int .u64 4)), [1], none⟩,
  ⟨some 2, .mov (.t 5), [2, 1, 0, 1, 2], none⟩]
def c18 : ACode := .seq (.reg r18_0 false) (.seq (.reg r18_1 false) (.ret))
theorem body18 : Try.f18.body.map (comp Try.prog 6) = some c18 := by kernel_rfl
theorem res18 : allSome (Try.f18.results.toList.map (compRes Try.prog)) = some [.s 2] := by kernel_rfl
theorem cok18 {S : FSpec} (h : ∀ args K, S args K → args.all argOk = true ∧ args.length ≤ 6 ∧ AW Try.prog 6 (some ownP) c18 (initS args) (retPost [.s 2] args K)) : COK Try.prog 18 S := of_body Try.func18 Try.ntmps18 body18 res18 h

/-- sleuth/span.Partition -/
def W18 (trace_18 : Int) (K : Int → Prop) : Prop :=
  W43 trace_18 fun r1509 => K (Int.fdiv r1509 (2 ^ 4))

def S18 : FSpec := fun args K => ∃ (trace_18 : Int), ∃ (Kr : Int → Prop), args = [.one (.d (.int .i64 trace_18))] ∧ W18 trace_18 Kr ∧ ∀ r, Kr r → K (.one (.d (.int .i64 r))) []

theorem en18 : enters Try.prog 18 = true := by unfold enters; rw [Try.func18]; rfl
theorem cl18 (trace_18 : Int) {Kr : Int → Prop} (h : W18 trace_18 Kr) : S18 [.one (.d (.int .i64 trace_18))] (fun rv rows => ∃ r, rv = (.one (.d (.int .i64 r))) ∧ rows = [] ∧ Kr r) := ⟨trace_18, Kr, rfl, h, fun r hr => ⟨r, rfl, rfl, hr⟩⟩

theorem ok18 : COK Try.prog 18 S18 := by
  refine cok18 fun args K0 hS => ?_
  obtain ⟨trace_18, K, rfl, h, hK⟩ := hS
  refine ⟨by kernel_rfl, by simp, ?_⟩
  unfold W18 at h
  refine AW.sregL [(0, none)] (by kernel_rfl) ?_
  refine l_det (some 2) (.one (.d (.int .i64 0)), []) (by kernel_rfl) ?_
  refine l_nil ?_
  refine AW.sregL [(0, none), (1, none), (2, none), (3, none)] (by kernel_rfl) ?_
  refine l_det (some 3) (.one (.d (.int .i64 trace_18)), []) (by kernel_rfl) ?_
  refine l_call ok43 en43 (some 4) [.one (.d (.int .i64 trace_18))] [false] [.one (.d (.int .i64 trace_18))] [] (by kernel_rfl) ⟨by kernel_rfl, by kernel_rfl⟩ (by kernel_rfl) (by kernel_rfl) (by kernel_rfl) (cl43 trace_18 h) ?_
  rintro hR _ _ ⟨r1509, rfl, rfl, h⟩
  refine ⟨false, (.one (.d (.int .i64 r1509)), []), (fun hz => (by cases hz)), (ret_R hR (by kernel_rfl)), ?_⟩
  refine l_det (some 5) (.one (.d (.int .i64 (Int.fdiv r1509 (2 ^ 4)))), []) (by kernel_rfl) ?_
  refine l_det (some 2) (.one (.d (.int .i64 (Int.fdiv r1509 (2 ^ 4)))), []) (by kernel_rfl) ?_
  refine l_nil ?_
  refine AW.ret ?_
  exact q_end [.one (.d (.int .i64 (Int.fdiv r1509 (2 ^ 4))))] [false] [.one (.d (.int .i64 (Int.fdiv r1509 (2 ^ 4))))] [] [] (by kernel_rfl) ⟨by kernel_rfl, by kernel_rfl⟩ (by kernel_rfl) (by kernel_rfl) (by kernel_rfl) (by kernel_rfl) (Eq.mp (by kernel_rfl) (hK (Int.fdiv r1509 (2 ^ 4)) h)) (.inr rfl)
def r19_0 : List AR := [⟨some 3, .box 50 true 4 (.t 0), [], none⟩,
  ⟨some 6, .mov (.c (.int .i64 0)), [], none⟩,
  ⟨some 7, .mov (.c (.int .i64 0)), [1], none⟩]
def r19_1 : List AR := [⟨some 8, .mov (.c (.int .i64 0)), [], none⟩,
  ⟨some 9, .mov (.c (.int .i64 0)), [0, 0], none⟩]
def r19_2 : List AR := [⟨some 18, .fad (.t 3) 0, [], none⟩,
  ⟨some 19, .ld false 1 (.t 18), [0], none⟩,
  ⟨some 20, .lens (.t 19), [1], none⟩,
  ⟨some 21, .mov (.c (.int .i64 0)), [], none⟩]
def r19_3 : List AR := [⟨some 22, .bin .lss (.t 21) (.t 20), [], none⟩]
def r19_4 : List AR := [⟨some 23, .iad 3 (.t 19) (.t 21), [], none⟩,
  ⟨some 24, .ld true 3 (.t 23), [0], none⟩,
  ⟨some 11, .alloc 53 true [.int .i64 0, .int .i64 0, .nils], [], none⟩,
  ⟨none, .st 3 (.t 11) (.t 24), [2, 1, 0, 1, 2], none⟩]
def r19_5 : List AR := [⟨some 25, .fad (.t 11) 2, [], none⟩,
  ⟨some 26, .ld false 1 (.t 25), [0], none⟩,
  ⟨some 27, .lens (.t 26), [1], none⟩,
  ⟨some 28, .mov (.c (.int .i64 0)), [], none⟩]
def r19_6 : List AR := [⟨some 29, .bin .lss (.t 28) (.t 27), [], none⟩]
def r19_7 : List AR := [⟨some 30, .iad 14 (.t 26) (.t 28), [], none⟩,
  ⟨some 31, .ld true 14 (.t 30), [0], none⟩,
  ⟨some 13, .alloc 58 true [.int .i64 0, .int .i64 0, .int .i64 0, .int .i64 0, .int .i64 0, .int .i64 0, .str ⟨#[]⟩, .str ⟨#[]⟩, .str ⟨#[]⟩, .int .i64 0, .int .i64 0, .bool false, .nils, .nils], [], none⟩,
  ⟨none, .st 14 (.t 13) (.t 31), [2, 1, 0, 1, 2], none⟩]
def r19_8 : List AR := [⟨some 32, .fad (.t 11) 0, [], none⟩,
  ⟨some 33, .ld false 1 (.t 32), [0], none⟩,
  ⟨some 34, .call 18 [.t 33], [1], none⟩,
  ⟨some 35, .mov (.t 1), [], none⟩,
  ⟨some 36, .bin .eql (.t 34) (.t 35), [2, 3], none⟩,
  ⟨some 37, .mov (.t 36), [4, 2], none⟩,
  ⟨some 38, .fad (.t 13) 6, [5], some (37, true)⟩,
  ⟨some 39, .ld false 1 (.t 38), [6, 5], some (37, true)⟩,
  ⟨some 40, .mov (.t 2), [5], some (37, true)⟩,
  ⟨some 41, .bin .eql (.t 39) (.t 40), [7, 8, 5], some (37, true)⟩,
  ⟨some 42, .pick (.t 37) (.t 41) (.c (.bool false)), [5, 9], none⟩]
def r19_9 : List AR := [⟨some 43, .mov (.t 8), [], none⟩,
  ⟨some 44, .bin .add (.t 43) (.c (.int .i64 1)), [0], none⟩,
  ⟨some 8, .mov (.t 44), [1, 0, 1], none⟩]
def r19_10 : List AR := [⟨some 45, .bin .add (.t 28) (.c (.int .i64 1)), [], none⟩,
  ⟨some 28, .mov (.t 45), [0], none⟩]
def r19_11 : List AR := [⟨some 46, .bin .add (.t 21) (.c (.int .i64 1)), [], none⟩,
  ⟨some 21, .mov (.t 46), [0], none⟩]
def r19_12 : List AR := [⟨some 47, .fad (.t 3) 2, [], none⟩,
  ⟨some 48, .ld false 1 (.t 47), [0], none⟩,
  ⟨some 49, .lens (.t 48), [1], none⟩,
  ⟨some 50, .mov (.c (.int .i64 0)), [], none⟩]
def r19_13 : List AR := [⟨some 51, .bin .lss (.t 50) (.t 49), [], none⟩]
def r19_14 : List AR := [⟨some 52, .iad 4 (.t 48) (.t 50), [], none⟩,
  ⟨some 53, .ld true 4 (.t 52), [0], none⟩,
  ⟨some 15, .alloc 60 true [.int .i64 0, .str ⟨#[]⟩, .int .i64 0, .int .i64 0], [], none⟩,
  ⟨none, .st 4 (.t 15) (.t 53), [2, 1, 0, 1, 2], none⟩]
def r19_15 : List AR := [⟨some 54, .fad (.t 15) 0, [], none⟩,
  ⟨some 55, .ld false 1 (.t 54), [0], none⟩,
  ⟨some 56, .mov (.t 1), [], none⟩,
  ⟨some 57, .bin .eql (.t 55) (.t 56), [1, 2], none⟩,
  ⟨some 58, .mov (.t 57), [3], none⟩,
  ⟨some 59, .fad (.t 15) 1, [4], some (58, true)⟩,
  ⟨some 60, .ld false 1 (.t 59), [5, 4], some (58, true)⟩,
  ⟨some 61, .mov (.t 2), [4], some (58, true)⟩,
  ⟨some 62, .bin .eql (.t 60) (.t 61), [6, 7, 4], some (58, true)⟩,
  ⟨some 63, .pick (.t 58) (.t 62) (.c (.bool false)), [4, 8], none⟩]
def r19_16 : List AR := [⟨some 64, .mov (.t 8), [], none⟩,
  ⟨some 65, .fad (.t 15) 2, [], none⟩,
  ⟨some 66, .ld false 1 (.t 65), [1], none⟩,
  ⟨some 67, .bin .add (.t 64) (.t 66), [0, 2], none⟩,
  ⟨some 8, .mov (.t 67), [3, 0, 1, 2, 3], none⟩]
def r19_17 : List AR := [⟨some 68, .bin .add (.t 50) (.c (.int .i64 1)), [], none⟩,
  ⟨some 50, .mov (.t 68), [0], none⟩]
def r19_18 : List AR := [⟨some 69, .fad (.t 3) 3, [], none⟩,
  ⟨some 70, .ld false 1 (.t 69), [0], none⟩,
  ⟨some 71, .lens (.t 70), [1], none⟩,
  ⟨some 72, .mov (.c (.int .i64 0)), [], none⟩]
def r19_19 : List AR := [⟨some 73, .bin .lss (.t 72) (.t 71), [], none⟩]
def r19_20 : List AR := [⟨some 74, .iad 2 (.t 70) (.t 72), [], none⟩,
  ⟨some 75, .ld true 2 (.t 74), [0], none⟩,
  ⟨some 17, .alloc 62 true [.int .i64 0, .int .i64 0], [], none⟩,
  ⟨none, .st 2 (.t 17) (.t 75), [2, 1, 0, 1, 2], none⟩]
def r19_21 : List AR := [⟨some 76, .fad (.t 17) 0, [], none⟩,
  ⟨some 77, .ld false 1 (.t 76), [0], none⟩,
  ⟨some 78, .mov (.t 1), [], none⟩,
  ⟨some 79, .bin .eql (.t 77) (.t 78), [1, 2], none⟩]
def r19_22 : List AR := [⟨some 80, .mov (.t 9), [], none⟩,
  ⟨some 81, .fad (.t 17) 1, [], none⟩,
  ⟨some 82, .ld false 1 (.t 81), [1], none⟩,
  ⟨some 83, .bin .add (.t 80) (.t 82), [0, 2], none⟩,
  ⟨some 9, .mov (.t 83), [3, 0, 1, 2, 3], none⟩]
def r19_23 : List AR := [⟨some 84, .bin .add (.t 72) (.c (.int .i64 1)), [], none⟩,
  ⟨some 72, .mov (.t 84), [0], none⟩]
def r19_24 : List AR := [⟨some 85, .mov (.t 8), [], none⟩,
  ⟨some 86, .mov (.t 9), [], none⟩,
  ⟨some 87, .bin .sub (.t 85) (.t 86), [0, 1], none⟩,
  ⟨some 88, .mm true [.c (.int .i64 0), .t 87], [2], none⟩,
  ⟨some 89, .mov (.t 8), [], none⟩,
  ⟨some 90, .mov (.t 9), [], none⟩,
  ⟨some 91, .bin .add (.t 89) (.t 90), [4, 5], none⟩,
  ⟨some 6, .mov (.t 88), [3, 0, 1, 2, 3], none⟩,
  ⟨some 7, .mov (.t 91), [6, 7, 0, 1, 2, 3, 4, 5, 6, 7], none⟩]
def c19 : ACode := .seq (.reg r19_0 false) (.seq (.reg r19_1 false) (.seq (.seq (.reg r19_2 false) (.blk 0 (.loop (.seq (.reg r19_3 false) (.seq (.cond (.t 22) (.skip) (.exit 0)) (.seq (.blk 1 (.seq (.reg r19_4 false) (.seq (.reg r19_5 false) (.blk 2 (.loop (.seq (.reg r19_6 false) (.seq (.cond (.t 29) (.skip) (.exit 2)) (.seq (.blk 3 (.seq (.reg r19_7 false) (.seq (.reg r19_8 false) (.cond (.t 42) (.reg r19_9 false) (.skip))))) (.reg r19_10 false))))))))) (.reg r19_11 false))))))) (.seq (.seq (.reg r19_12 false) (.blk 4 (.loop (.seq (.reg r19_13 false) (.seq (.cond (.t 51) (.skip) (.exit 4)) (.seq (.blk 5 (.seq (.reg r19_14 false) (.seq (.reg r19_15 false) (.cond (.t 63) (.reg r19_16 false) (.skip))))) (.reg r19_17 false))))))) (.seq (.seq (.reg r19_18 false) (.blk 6 (.loop (.seq (.reg r19_19 false) (.seq (.cond (.t 73) (.skip) (.exit 6)) (.seq (.blk 7 (.seq (.reg r19_20 false) (.seq (.reg r19_21 false) (.cond (.t 79) (.reg r19_22 false) (.skip))))) (.reg r19_23 false))))))) (.seq (.reg r19_24 false) (.ret))))))
theorem body19 : Try.f19.body.map (comp Try.prog 92) = some c19 := by kernel_rfl
theorem res19 : allSome (Try.f19.results.toList.map (compRes Try.prog)) = some [.s 6, .s 7] := by kernel_rfl
theorem cok19 {S : FSpec} (h : ∀ args K, S args K → args.all argOk = true ∧ args.length ≤ 92 ∧ AW Try.prog 92 (some ownP) c19 (initS args) (retPost [.s 6, .s 7] args K)) : COK Try.prog 19 S := of_body Try.func19 Try.ntmps19 body19 res19 h

def J19_3 (N2236 : (Int × Int) → Prop) (v2216 : Int) (v2249 : Int) : Prop :=
  N2236 (v2249, (w64 (v2216 + 1)))

def J19_4 (N2236 : (Int × Int) → Prop) (v2216 : Int) (v2215 : Int) (v2254 : Bool) : Prop :=
  Cond v2254 (J19_3 N2236 v2216 (w64 (v2215 + 1))) (J19_3 N2236 v2216 v2215)

def L19_2 (x2195 : TTrace) (partition_19 : Int) (service_19 : ByteArray) (N2131 : (Int × Int) → Prop) (v2006 : Int) (v2215 : Int) (v2216 : Int) (N2236 : (Int × Int) → Prop) : Prop :=
  Cond (decide (v2216 < (x2195.spans.length : Int))) (Idx x2195.spans v2216 fun x2251 => W18 x2195.id fun r2255 => Cond (decide (r2255 = partition_19)) (J19_4 N2236 v2216 v2215 (decide (x2251.service = service_19))) (J19_4 N2236 v2216 v2215 false)) (N2131 (v2215, (w64 (v2006 + 1))))

def J19_6 (N2311 : (Int × Int) → Prop) (v2300 : Int) (v2318 : Int) : Prop :=
  N2311 (v2318, (w64 (v2300 + 1)))

def J19_7 (N2311 : (Int × Int) → Prop) (v2300 : Int) (v2299 : Int) (x2320 : TRemoved) (v2321 : Bool) : Prop :=
  Cond v2321 (J19_6 N2311 v2300 (w64 (v2299 + x2320.spans))) (J19_6 N2311 v2300 v2299)

def J19_9 (N2362 : (Int × Int) → Prop) (v2354 : Int) (v2367 : Int) : Prop :=
  N2362 (v2367, (w64 (v2354 + 1)))

def L19_8 (r_0_19 : TRetained) (partition_19 : Int) (K : (Int × Int) → Prop) (v2299 : Int) (v2353 : Int) (v2354 : Int) (N2362 : (Int × Int) → Prop) : Prop :=
  Cond (decide (v2354 < (r_0_19.late.length : Int))) (Idx r_0_19.late v2354 fun x2369 => Cond (decide (x2369.partition = partition_19)) (J19_9 N2362 v2354 (w64 (v2353 + x2369.spans))) (J19_9 N2362 v2354 v2353)) (K ((if (w64 (v2299 - v2353)) > 0 then (w64 (v2299 - v2353)) else 0), (w64 (v2299 + v2353))))

def L19_5 (r_0_19 : TRetained) (partition_19 : Int) (service_19 : ByteArray) (K : (Int × Int) → Prop) (v2299 : Int) (v2300 : Int) (N2311 : (Int × Int) → Prop) : Prop :=
  Cond (decide (v2300 < (r_0_19.removed.length : Int))) (Idx r_0_19.removed v2300 fun x2320 => Cond (decide (x2320.partition = partition_19)) (J19_7 N2311 v2300 v2299 x2320 (decide (x2320.service = service_19))) (J19_7 N2311 v2300 v2299 x2320 false)) (LoopW (fun (s : (Int × Int)) N2362 => L19_8 r_0_19 partition_19 K v2299 s.1 s.2 N2362) (0, 0))

def L19_1 (r_0_19 : TRetained) (partition_19 : Int) (service_19 : ByteArray) (K : (Int × Int) → Prop) (v2005 : Int) (v2006 : Int) (N2131 : (Int × Int) → Prop) : Prop :=
  Cond (decide (v2006 < (r_0_19.traces.length : Int))) (Idx r_0_19.traces v2006 fun x2195 => LoopW (fun (s : (Int × Int)) N2236 => L19_2 x2195 partition_19 service_19 N2131 v2006 s.1 s.2 N2236) (v2005, 0)) (LoopW (fun (s : (Int × Int)) N2311 => L19_5 r_0_19 partition_19 service_19 K s.1 s.2 N2311) (v2005, 0))

/-- sleuth/estimate.Count -/
def W19 (r_0_19 : TRetained) (partition_19 : Int) (service_19 : ByteArray) (K : (Int × Int) → Prop) : Prop :=
  LoopW (fun (s : (Int × Int)) N2131 => L19_1 r_0_19 partition_19 service_19 K s.1 s.2 N2131) (0, 0)

def S19 : FSpec := fun args K => ∃ (r_0_19 : TRetained), ∃ (partition_19 : Int), ∃ (service_19 : ByteArray), ∃ (Kr : (Int × Int) → Prop), args = [.agg (List.map RC.d (TRetained.enc r_0_19)), .one (.d (.int .i64 partition_19)), .one (.d (.str service_19))] ∧ W19 r_0_19 partition_19 service_19 Kr ∧ ∀ r, Kr r → K (.tup [.one (.d (.int .i64 r.1)), .one (.d (.int .i64 r.2))]) []

theorem en19 : enters Try.prog 19 = true := by unfold enters; rw [Try.func19]; rfl
theorem cl19 (r_0_19 : TRetained) (partition_19 : Int) (service_19 : ByteArray) {Kr : (Int × Int) → Prop} (h : W19 r_0_19 partition_19 service_19 Kr) : S19 [.agg (List.map RC.d (TRetained.enc r_0_19)), .one (.d (.int .i64 partition_19)), .one (.d (.str service_19))] (fun rv rows => ∃ r, rv = (.tup [.one (.d (.int .i64 r.1)), .one (.d (.int .i64 r.2))]) ∧ rows = [] ∧ Kr r) := ⟨r_0_19, partition_19, service_19, Kr, rfl, h, fun r hr => ⟨r, rfl, rfl, hr⟩⟩

theorem ok19 : COK Try.prog 19 S19 := by
  refine cok19 fun args K0 hS => ?_
  obtain ⟨r_0_19, partition_19, service_19, K, rfl, h, hK⟩ := hS
  refine ⟨by kernel_rfl, by simp, ?_⟩
  unfold W19 at h
  refine AW.sregL [(0, none), (1, none), (2, none)] (by kernel_rfl) ?_
  refine l_det (some 3) (.one (.ref 3 1 0 0), [(3, 1, .row true 50 4 [[.d (.sl (List.map TTrace.enc r_0_19.traces)), .d (.sl (List.map TExchange.enc r_0_19.exchanges)), .d (.sl (List.map TRemoved.enc r_0_19.removed)), .d (.sl (List.map TLate.enc r_0_19.late))]])]) (by kernel_rfl) ?_
  refine l_det (some 6) (.one (.d (.int .i64 0)), []) (by kernel_rfl) ?_
  refine l_det (some 7) (.one (.d (.int .i64 0)), []) (by kernel_rfl) ?_
  refine l_nil ?_
  refine AW.sregL [(0, none), (1, none)] (by kernel_rfl) ?_
  refine l_det (some 8) (.one (.d (.int .i64 0)), []) (by kernel_rfl) ?_
  refine l_det (some 9) (.one (.d (.int .i64 0)), []) (by kernel_rfl) ?_
  refine l_nil ?_
  refine AW.seq ?_
  refine AW.sregL [(0, none), (1, none), (2, none), (3, none)] (by kernel_rfl) ?_
  refine l_det (some 18) (.one (.ref 3 1 0 0), []) (by kernel_rfl) ?_
  refine l_det (some 19) (.one (.d (.sl (List.map TTrace.enc r_0_19.traces))), []) (by kernel_rfl) ?_
  refine l_spec (some 20) (.lens (.t 19)) (.one (.d (.int .i64 (r_0_19.traces.length : Int))), []) (by kernel_rfl) (detA_none (d_lens_sl (enc := TTrace.enc) r_0_19.traces (by kernel_rfl))) ?_
  refine l_det (some 21) (.one (.d (.int .i64 0)), []) (by kernel_rfl) ?_
  refine l_nil ?_
  refine AW.blk ?_
  refine AW.loopL (S := (Int × Int)) (fun s => (fun (v2005 : Int) (v2006 : Int) => [(1, .one (.d (.int .i64 partition_19))), (2, .one (.d (.str service_19))), (3, .one (.ref 200001 0 0 0)), (8, .one (.d (.int .i64 v2005))), (9, .one (.d (.int .i64 0))), (19, .one (.d (.sl (List.map TTrace.enc r_0_19.traces)))), (20, .one (.d (.int .i64 (r_0_19.traces.length : Int)))), (21, .one (.d (.int .i64 v2006)))]) s.1 s.2) (fun s => (fun (v2005 : Int) (v2006 : Int) => [(200001, .expl true 50 4 [[.d (.sl (List.map TTrace.enc r_0_19.traces)), .d (.sl (List.map TExchange.enc r_0_19.exchanges)), .d (.sl (List.map TRemoved.enc r_0_19.removed)), .d (.sl (List.map TLate.enc r_0_19.late))]])]) s.1 s.2) (fun (s : (Int × Int)) N2131 => L19_1 r_0_19 partition_19 service_19 K s.1 s.2 N2131) (N := fun s => LoopW (fun (s : (Int × Int)) N2131 => L19_1 r_0_19 partition_19 service_19 K s.1 s.2 N2131) s) (Lab.mk (0, 0) [(200001, some 3)] (by kernel_rfl) (by kernel_rfl) (by kernel_rfl) (by kernel_rfl) h) (fun _ h => h) ?_
  rintro ⟨v2005, v2006⟩ N2131 h
  have h : L19_1 r_0_19 partition_19 service_19 K v2005 v2006 N2131 := h
  unfold L19_1 at h
  refine AW.sregL [(0, none)] (by kernel_rfl) ?_
  refine l_det (some 22) (.one (.d (.bool (decide (v2006 < (r_0_19.traces.length : Int))))), []) (by kernel_rfl) ?_
  refine l_nil ?_
  refine AW.seq ?_
  refine AW.cond' (by kernel_rfl) h (fun h => ?_) (fun h => ?_)
  · refine AW.skip ?_
    refine q_fall ?_
    refine AW.seq ?_
    refine AW.blk ?_
    refine AW.sregL [(0, none), (1, none), (2, none), (3, none)] (by kernel_rfl) ?_
    obtain ⟨h740, x2195, h741, h⟩ := h
    refine l_spec (some 23) (.iad 3 (.t 19) (.t 21)) (.one (.d (.ptr [.int .i64 x2195.id, .int .i64 x2195.weight, .sl (List.map TSpan.enc x2195.spans)])), []) (by kernel_rfl) (detA_none (d_iad_sl (enc := TTrace.enc) (k := .i64) r_0_19.traces x2195 (by kernel_rfl) (by kernel_rfl) h740 h741 rfl)) ?_
    refine l_det (some 24) (.agg [.d (.int .i64 x2195.id), .d (.int .i64 x2195.weight), .d (.sl (List.map TSpan.enc x2195.spans))], []) (by kernel_rfl) ?_
    refine l_det (some 11) (.one (.ref 11 1 0 0), [(11, 1, .row true 53 3 [[.d (.int .i64 0), .d (.int .i64 0), .nils]])]) (by kernel_rfl) ?_
    refine l_det none (.tup [], [(11, 1, .row true 53 3 [[.d (.int .i64 x2195.id), .d (.int .i64 x2195.weight), .d (.sl (List.map TSpan.enc x2195.spans))]])]) (by kernel_rfl) ?_
    refine l_nil ?_
    refine AW.sregL [(0, none), (1, none), (2, none), (3, none)] (by kernel_rfl) ?_
    refine l_det (some 25) (.one (.ref 11 1 0 2), []) (by kernel_rfl) ?_
    refine l_det (some 26) (.one (.d (.sl (List.map TSpan.enc x2195.spans))), []) (by kernel_rfl) ?_
    refine l_spec (some 27) (.lens (.t 26)) (.one (.d (.int .i64 (x2195.spans.length : Int))), []) (by kernel_rfl) (detA_none (d_lens_sl (enc := TSpan.enc) x2195.spans (by kernel_rfl))) ?_
    refine l_det (some 28) (.one (.d (.int .i64 0)), []) (by kernel_rfl) ?_
    refine l_nil ?_
    refine AW.blk ?_
    refine AW.loopL (S := (Int × Int)) (fun s => (fun (v2215 : Int) (v2216 : Int) => [(1, .one (.d (.int .i64 partition_19))), (2, .one (.d (.str service_19))), (3, .one (.ref 200001 0 0 0)), (8, .one (.d (.int .i64 v2215))), (9, .one (.d (.int .i64 0))), (11, .one (.ref 200002 0 0 0)), (19, .one (.d (.sl (List.map TTrace.enc r_0_19.traces)))), (20, .one (.d (.int .i64 (r_0_19.traces.length : Int)))), (21, .one (.d (.int .i64 v2006))), (26, .one (.d (.sl (List.map TSpan.enc x2195.spans)))), (27, .one (.d (.int .i64 (x2195.spans.length : Int)))), (28, .one (.d (.int .i64 v2216)))]) s.1 s.2) (fun s => (fun (v2215 : Int) (v2216 : Int) => [(200001, .expl true 50 4 [[.d (.sl (List.map TTrace.enc r_0_19.traces)), .d (.sl (List.map TExchange.enc r_0_19.exchanges)), .d (.sl (List.map TRemoved.enc r_0_19.removed)), .d (.sl (List.map TLate.enc r_0_19.late))]]), (200002, .expl true 53 3 [[.d (.int .i64 x2195.id), .d (.int .i64 x2195.weight), .d (.sl (List.map TSpan.enc x2195.spans))]])]) s.1 s.2) (fun (s : (Int × Int)) N2236 => L19_2 x2195 partition_19 service_19 N2131 v2006 s.1 s.2 N2236) (N := fun s => LoopW (fun (s : (Int × Int)) N2236 => L19_2 x2195 partition_19 service_19 N2131 v2006 s.1 s.2 N2236) s) (Lab.mk (v2005, 0) [(200001, some 200001), (200002, some 11)] (by kernel_rfl) (by kernel_rfl) (by kernel_rfl) (by kernel_rfl) h) (fun _ h => h) ?_
    rintro ⟨v2215, v2216⟩ N2236 h
    have h : L19_2 x2195 partition_19 service_19 N2131 v2006 v2215 v2216 N2236 := h
    unfold L19_2 at h
    refine AW.sregL [(0, none)] (by kernel_rfl) ?_
    refine l_det (some 29) (.one (.d (.bool (decide (v2216 < (x2195.spans.length : Int))))), []) (by kernel_rfl) ?_
    refine l_nil ?_
    refine AW.seq ?_
    refine AW.cond' (by kernel_rfl) h (fun h => ?_) (fun h => ?_)
    · refine AW.skip ?_
      refine q_fall ?_
      refine AW.seqL (S := Int) (fun s => (fun (v2249 : Int) => [(1, .one (.d (.int .i64 partition_19))), (2, .one (.d (.str service_19))), (3, .one (.ref 200001 0 0 0)), (8, .one (.d (.int .i64 v2249))), (9, .one (.d (.int .i64 0))), (11, .one (.ref 200002 0 0 0)), (19, .one (.d (.sl (List.map TTrace.enc r_0_19.traces)))), (20, .one (.d (.int .i64 (r_0_19.traces.length : Int)))), (21, .one (.d (.int .i64 v2006))), (26, .one (.d (.sl (List.map TSpan.enc x2195.spans)))), (27, .one (.d (.int .i64 (x2195.spans.length : Int)))), (28, .one (.d (.int .i64 v2216)))]) s) (fun s => (fun (v2249 : Int) => [(200001, .expl true 50 4 [[.d (.sl (List.map TTrace.enc r_0_19.traces)), .d (.sl (List.map TExchange.enc r_0_19.exchanges)), .d (.sl (List.map TRemoved.enc r_0_19.removed)), .d (.sl (List.map TLate.enc r_0_19.late))]]), (200002, .expl true 53 3 [[.d (.int .i64 x2195.id), .d (.int .i64 x2195.weight), .d (.sl (List.map TSpan.enc x2195.spans))]])]) s) (fun s : Int => J19_3 N2236 v2216 s) ?_ ?_
      · refine AW.blk ?_
        refine AW.sregL [(0, none), (1, none), (2, none), (3, none)] (by kernel_rfl) ?_
        obtain ⟨h800, x2251, h801, h⟩ := h
        refine l_spec (some 30) (.iad 14 (.t 26) (.t 28)) (.one (.d (.ptr [.int .i64 x2251.trace, .int .i64 x2251.id, .int .i64 x2251.parent, .int .i64 x2251.revision, .int .i64 x2251.clock, .int .i64 x2251.kind, .str x2251.service, .str x2251.version, .str x2251.operation, .int .i64 x2251.start, .int .i64 x2251.end_, .bool x2251.error, .sl (List.map TAttr.enc x2251.attrs), .sl (List.map TRef.enc x2251.links)])), []) (by kernel_rfl) (detA_none (d_iad_sl (enc := TSpan.enc) (k := .i64) x2195.spans x2251 (by kernel_rfl) (by kernel_rfl) h800 h801 rfl)) ?_
        refine l_det (some 31) (.agg [.d (.int .i64 x2251.trace), .d (.int .i64 x2251.id), .d (.int .i64 x2251.parent), .d (.int .i64 x2251.revision), .d (.int .i64 x2251.clock), .d (.int .i64 x2251.kind), .d (.str x2251.service), .d (.str x2251.version), .d (.str x2251.operation), .d (.int .i64 x2251.start), .d (.int .i64 x2251.end_), .d (.bool x2251.error), .d (.sl (List.map TAttr.enc x2251.attrs)), .d (.sl (List.map TRef.enc x2251.links))], []) (by kernel_rfl) ?_
        refine l_det (some 13) (.one (.ref 13 1 0 0), [(13, 1, .row true 58 14 [[.d (.int .i64 0), .d (.int .i64 0), .d (.int .i64 0), .d (.int .i64 0), .d (.int .i64 0), .d (.int .i64 0), .d (.str (⟨#[]⟩ : ByteArray)), .d (.str (⟨#[]⟩ : ByteArray)), .d (.str (⟨#[]⟩ : ByteArray)), .d (.int .i64 0), .d (.int .i64 0), .d (.bool false), .nils, .nils]])]) (by kernel_rfl) ?_
        refine l_det none (.tup [], [(13, 1, .row true 58 14 [[.d (.int .i64 x2251.trace), .d (.int .i64 x2251.id), .d (.int .i64 x2251.parent), .d (.int .i64 x2251.revision), .d (.int .i64 x2251.clock), .d (.int .i64 x2251.kind), .d (.str x2251.service), .d (.str x2251.version), .d (.str x2251.operation), .d (.int .i64 x2251.start), .d (.int .i64 x2251.end_), .d (.bool x2251.error), .d (.sl (List.map TAttr.enc x2251.attrs)), .d (.sl (List.map TRef.enc x2251.links))]])]) (by kernel_rfl) ?_
        refine l_nil ?_
        refine AW.seqL (S := Bool) (fun s => (fun (v2254 : Bool) => [(1, .one (.d (.int .i64 partition_19))), (2, .one (.d (.str service_19))), (3, .one (.ref 200001 0 0 0)), (8, .one (.d (.int .i64 v2215))), (9, .one (.d (.int .i64 0))), (11, .one (.ref 200002 0 0 0)), (19, .one (.d (.sl (List.map TTrace.enc r_0_19.traces)))), (20, .one (.d (.int .i64 (r_0_19.traces.length : Int)))), (21, .one (.d (.int .i64 v2006))), (26, .one (.d (.sl (List.map TSpan.enc x2195.spans)))), (27, .one (.d (.int .i64 (x2195.spans.length : Int)))), (28, .one (.d (.int .i64 v2216))), (42, .one (.d (.bool v2254)))]) s) (fun s => (fun (v2254 : Bool) => [(200001, .expl true 50 4 [[.d (.sl (List.map TTrace.enc r_0_19.traces)), .d (.sl (List.map TExchange.enc r_0_19.exchanges)), .d (.sl (List.map TRemoved.enc r_0_19.removed)), .d (.sl (List.map TLate.enc r_0_19.late))]]), (200002, .expl true 53 3 [[.d (.int .i64 x2195.id), .d (.int .i64 x2195.weight), .d (.sl (List.map TSpan.enc x2195.spans))]])]) s) (fun s : Bool => J19_4 N2236 v2216 v2215 s) ?_ ?_
        · refine AW.regL [(0, none), (1, none), (2, none), (3, none), (4, none), (5, none), (6, none), (7, none), (8, none), (9, none), (10, none)] (by kernel_rfl) ?_
          refine l_det (some 32) (.one (.ref 200002 0 0 0), []) (by kernel_rfl) ?_
          refine l_det (some 33) (.one (.d (.int .i64 x2195.id)), []) (by kernel_rfl) ?_
          refine l_call ok18 en18 (some 34) [.one (.d (.int .i64 x2195.id))] [false] [.one (.d (.int .i64 x2195.id))] [] (by kernel_rfl) ⟨by kernel_rfl, by kernel_rfl⟩ (by kernel_rfl) (by kernel_rfl) (by kernel_rfl) (cl18 x2195.id h) ?_
          rintro hR _ _ ⟨r2255, rfl, rfl, h⟩
          refine ⟨false, (.one (.d (.int .i64 r2255)), []), (fun hz => (by cases hz)), (ret_R hR (by kernel_rfl)), ?_⟩
          refine l_det (some 35) (.one (.d (.int .i64 partition_19)), []) (by kernel_rfl) ?_
          refine l_det (some 36) (.one (.d (.bool (decide (r2255 = partition_19)))), []) (by kernel_rfl) ?_
          refine l_det (some 37) (.one (.d (.bool (decide (r2255 = partition_19)))), []) (by kernel_rfl) ?_
          refine l_split (s := 37) (by kernel_rfl) h (fun h => ?_) (fun h => ?_)
          · refine l_det (some 38) (.one (.ref 13 1 0 6), []) (by kernel_rfl) ?_
            refine l_det (some 39) (.one (.d (.str x2251.service)), []) (by kernel_rfl) ?_
            refine l_det (some 40) (.one (.d (.str service_19)), []) (by kernel_rfl) ?_
            refine l_det (some 41) (.one (.d (.bool (decide (x2251.service = service_19)))), []) (by kernel_rfl) ?_
            refine l_det (some 42) (.one (.d (.bool (decide (x2251.service = service_19)))), []) (by kernel_rfl) ?_
            refine l_nil ?_
            refine q_fall ?_
            exact Lab.mk (decide (x2251.service = service_19)) [(200001, some 200001), (200002, some 200002)] (by kernel_rfl) (by kernel_rfl) (by kernel_rfl) (by kernel_rfl) h
          · refine l_det (some 38) (.tup [], []) (by kernel_rfl) ?_
            refine l_det (some 39) (.tup [], []) (by kernel_rfl) ?_
            refine l_det (some 40) (.tup [], []) (by kernel_rfl) ?_
            refine l_det (some 41) (.tup [], []) (by kernel_rfl) ?_
            refine l_det (some 42) (.one (.d (.bool false)), []) (by kernel_rfl) ?_
            refine l_nil ?_
            refine q_fall ?_
            exact Lab.mk false [(200001, some 200001), (200002, some 200002)] (by kernel_rfl) (by kernel_rfl) (by kernel_rfl) (by kernel_rfl) h
        · rintro v2254 h
          have h : J19_4 N2236 v2216 v2215 v2254 := h
          unfold J19_4 at h
          refine AW.cond' (by kernel_rfl) h (fun h => ?_) (fun h => ?_)
          · refine AW.regL [(0, none), (1, none), (2, none)] (by kernel_rfl) ?_
            refine l_det (some 43) (.one (.d (.int .i64 v2215)), []) (by kernel_rfl) ?_
            refine l_det (some 44) (.one (.d (.int .i64 (w64 (v2215 + 1)))), []) (by kernel_rfl) ?_
            refine l_det (some 8) (.one (.d (.int .i64 (w64 (v2215 + 1)))), []) (by kernel_rfl) ?_
            refine l_nil ?_
            refine q_bfall ?_
            refine q_fall ?_
            exact Lab.mk (w64 (v2215 + 1)) [(200001, some 200001), (200002, some 200002)] (by kernel_rfl) (by kernel_rfl) (by kernel_rfl) (by kernel_rfl) h
          · refine AW.skip ?_
            refine q_bfall ?_
            refine q_fall ?_
            exact Lab.mk v2215 [(200001, some 200001), (200002, some 200002)] (by kernel_rfl) (by kernel_rfl) (by kernel_rfl) (by kernel_rfl) h
      · rintro v2249 h
        have h : J19_3 N2236 v2216 v2249 := h
        unfold J19_3 at h
        refine AW.regL [(0, none), (1, none)] (by kernel_rfl) ?_
        refine l_det (some 45) (.one (.d (.int .i64 (w64 (v2216 + 1)))), []) (by kernel_rfl) ?_
        refine l_det (some 28) (.one (.d (.int .i64 (w64 (v2216 + 1)))), []) (by kernel_rfl) ?_
        refine l_nil ?_
        refine q_fall ?_
        exact Lab.mk (v2249, (w64 (v2216 + 1))) [(200001, some 200001), (200002, some 200002)] (by kernel_rfl) (by kernel_rfl) (by kernel_rfl) (by kernel_rfl) h
    · refine AW.exit ?_
      refine q_exit ?_
      refine q_exit ?_
      refine q_bhere ?_
      refine q_bfall ?_
      refine q_fall ?_
      refine AW.regL [(0, none), (1, none)] (by kernel_rfl) ?_
      refine l_det (some 46) (.one (.d (.int .i64 (w64 (v2006 + 1)))), []) (by kernel_rfl) ?_
      refine l_det (some 21) (.one (.d (.int .i64 (w64 (v2006 + 1)))), []) (by kernel_rfl) ?_
      refine l_nil ?_
      refine q_fall ?_
      exact Lab.mk (v2215, (w64 (v2006 + 1))) [(200001, some 200001)] (by kernel_rfl) (by kernel_rfl) (by kernel_rfl) (by kernel_rfl) h
  · refine AW.exit ?_
    refine q_exit ?_
    refine q_exit ?_
    refine q_bhere ?_
    refine q_fall ?_
    refine AW.seq ?_
    refine AW.sregL [(0, none), (1, none), (2, none), (3, none)] (by kernel_rfl) ?_
    refine l_det (some 47) (.one (.ref 200001 0 0 2), []) (by kernel_rfl) ?_
    refine l_det (some 48) (.one (.d (.sl (List.map TRemoved.enc r_0_19.removed))), []) (by kernel_rfl) ?_
    refine l_spec (some 49) (.lens (.t 48)) (.one (.d (.int .i64 (r_0_19.removed.length : Int))), []) (by kernel_rfl) (detA_none (d_lens_sl (enc := TRemoved.enc) r_0_19.removed (by kernel_rfl))) ?_
    refine l_det (some 50) (.one (.d (.int .i64 0)), []) (by kernel_rfl) ?_
    refine l_nil ?_
    refine AW.blk ?_
    refine AW.loopL (S := (Int × Int)) (fun s => (fun (v2299 : Int) (v2300 : Int) => [(1, .one (.d (.int .i64 partition_19))), (2, .one (.d (.str service_19))), (3, .one (.ref 200001 0 0 0)), (8, .one (.d (.int .i64 v2299))), (9, .one (.d (.int .i64 0))), (48, .one (.d (.sl (List.map TRemoved.enc r_0_19.removed)))), (49, .one (.d (.int .i64 (r_0_19.removed.length : Int)))), (50, .one (.d (.int .i64 v2300)))]) s.1 s.2) (fun s => (fun (v2299 : Int) (v2300 : Int) => [(200001, .expl true 50 4 [[.d (.sl (List.map TTrace.enc r_0_19.traces)), .d (.sl (List.map TExchange.enc r_0_19.exchanges)), .d (.sl (List.map TRemoved.enc r_0_19.removed)), .d (.sl (List.map TLate.enc r_0_19.late))]])]) s.1 s.2) (fun (s : (Int × Int)) N2311 => L19_5 r_0_19 partition_19 service_19 K s.1 s.2 N2311) (N := fun s => LoopW (fun (s : (Int × Int)) N2311 => L19_5 r_0_19 partition_19 service_19 K s.1 s.2 N2311) s) (Lab.mk (v2005, 0) [(200001, some 200001)] (by kernel_rfl) (by kernel_rfl) (by kernel_rfl) (by kernel_rfl) h) (fun _ h => h) ?_
    rintro ⟨v2299, v2300⟩ N2311 h
    have h : L19_5 r_0_19 partition_19 service_19 K v2299 v2300 N2311 := h
    unfold L19_5 at h
    refine AW.sregL [(0, none)] (by kernel_rfl) ?_
    refine l_det (some 51) (.one (.d (.bool (decide (v2300 < (r_0_19.removed.length : Int))))), []) (by kernel_rfl) ?_
    refine l_nil ?_
    refine AW.seq ?_
    refine AW.cond' (by kernel_rfl) h (fun h => ?_) (fun h => ?_)
    · refine AW.skip ?_
      refine q_fall ?_
      refine AW.seqL (S := Int) (fun s => (fun (v2318 : Int) => [(1, .one (.d (.int .i64 partition_19))), (2, .one (.d (.str service_19))), (3, .one (.ref 200001 0 0 0)), (8, .one (.d (.int .i64 v2318))), (9, .one (.d (.int .i64 0))), (48, .one (.d (.sl (List.map TRemoved.enc r_0_19.removed)))), (49, .one (.d (.int .i64 (r_0_19.removed.length : Int)))), (50, .one (.d (.int .i64 v2300)))]) s) (fun s => (fun (v2318 : Int) => [(200001, .expl true 50 4 [[.d (.sl (List.map TTrace.enc r_0_19.traces)), .d (.sl (List.map TExchange.enc r_0_19.exchanges)), .d (.sl (List.map TRemoved.enc r_0_19.removed)), .d (.sl (List.map TLate.enc r_0_19.late))]])]) s) (fun s : Int => J19_6 N2311 v2300 s) ?_ ?_
      · refine AW.blk ?_
        refine AW.sregL [(0, none), (1, none), (2, none), (3, none)] (by kernel_rfl) ?_
        obtain ⟨h875, x2320, h876, h⟩ := h
        refine l_spec (some 52) (.iad 4 (.t 48) (.t 50)) (.one (.d (.ptr [.int .i64 x2320.partition, .str x2320.service, .int .i64 x2320.spans, .int .i64 x2320.errors])), []) (by kernel_rfl) (detA_none (d_iad_sl (enc := TRemoved.enc) (k := .i64) r_0_19.removed x2320 (by kernel_rfl) (by kernel_rfl) h875 h876 rfl)) ?_
        refine l_det (some 53) (.agg [.d (.int .i64 x2320.partition), .d (.str x2320.service), .d (.int .i64 x2320.spans), .d (.int .i64 x2320.errors)], []) (by kernel_rfl) ?_
        refine l_det (some 15) (.one (.ref 15 1 0 0), [(15, 1, .row true 60 4 [[.d (.int .i64 0), .d (.str (⟨#[]⟩ : ByteArray)), .d (.int .i64 0), .d (.int .i64 0)]])]) (by kernel_rfl) ?_
        refine l_det none (.tup [], [(15, 1, .row true 60 4 [[.d (.int .i64 x2320.partition), .d (.str x2320.service), .d (.int .i64 x2320.spans), .d (.int .i64 x2320.errors)]])]) (by kernel_rfl) ?_
        refine l_nil ?_
        refine AW.seqL (S := Bool) (fun s => (fun (v2321 : Bool) => [(1, .one (.d (.int .i64 partition_19))), (2, .one (.d (.str service_19))), (3, .one (.ref 200001 0 0 0)), (8, .one (.d (.int .i64 v2299))), (9, .one (.d (.int .i64 0))), (15, .one (.ref 200002 0 0 0)), (48, .one (.d (.sl (List.map TRemoved.enc r_0_19.removed)))), (49, .one (.d (.int .i64 (r_0_19.removed.length : Int)))), (50, .one (.d (.int .i64 v2300))), (63, .one (.d (.bool v2321)))]) s) (fun s => (fun (v2321 : Bool) => [(200001, .expl true 50 4 [[.d (.sl (List.map TTrace.enc r_0_19.traces)), .d (.sl (List.map TExchange.enc r_0_19.exchanges)), .d (.sl (List.map TRemoved.enc r_0_19.removed)), .d (.sl (List.map TLate.enc r_0_19.late))]]), (200002, .expl true 60 4 [[.d (.int .i64 x2320.partition), .d (.str x2320.service), .d (.int .i64 x2320.spans), .d (.int .i64 x2320.errors)]])]) s) (fun s : Bool => J19_7 N2311 v2300 v2299 x2320 s) ?_ ?_
        · refine AW.regL [(0, none), (1, none), (2, none), (3, none), (4, none), (5, none), (6, none), (7, none), (8, none), (9, none)] (by kernel_rfl) ?_
          refine l_det (some 54) (.one (.ref 15 1 0 0), []) (by kernel_rfl) ?_
          refine l_det (some 55) (.one (.d (.int .i64 x2320.partition)), []) (by kernel_rfl) ?_
          refine l_det (some 56) (.one (.d (.int .i64 partition_19)), []) (by kernel_rfl) ?_
          refine l_det (some 57) (.one (.d (.bool (decide (x2320.partition = partition_19)))), []) (by kernel_rfl) ?_
          refine l_det (some 58) (.one (.d (.bool (decide (x2320.partition = partition_19)))), []) (by kernel_rfl) ?_
          refine l_split (s := 58) (by kernel_rfl) h (fun h => ?_) (fun h => ?_)
          · refine l_det (some 59) (.one (.ref 15 1 0 1), []) (by kernel_rfl) ?_
            refine l_det (some 60) (.one (.d (.str x2320.service)), []) (by kernel_rfl) ?_
            refine l_det (some 61) (.one (.d (.str service_19)), []) (by kernel_rfl) ?_
            refine l_det (some 62) (.one (.d (.bool (decide (x2320.service = service_19)))), []) (by kernel_rfl) ?_
            refine l_det (some 63) (.one (.d (.bool (decide (x2320.service = service_19)))), []) (by kernel_rfl) ?_
            refine l_nil ?_
            refine q_fall ?_
            exact Lab.mk (decide (x2320.service = service_19)) [(200001, some 200001), (200002, some 15)] (by kernel_rfl) (by kernel_rfl) (by kernel_rfl) (by kernel_rfl) h
          · refine l_det (some 59) (.tup [], []) (by kernel_rfl) ?_
            refine l_det (some 60) (.tup [], []) (by kernel_rfl) ?_
            refine l_det (some 61) (.tup [], []) (by kernel_rfl) ?_
            refine l_det (some 62) (.tup [], []) (by kernel_rfl) ?_
            refine l_det (some 63) (.one (.d (.bool false)), []) (by kernel_rfl) ?_
            refine l_nil ?_
            refine q_fall ?_
            exact Lab.mk false [(200001, some 200001), (200002, some 15)] (by kernel_rfl) (by kernel_rfl) (by kernel_rfl) (by kernel_rfl) h
        · rintro v2321 h
          have h : J19_7 N2311 v2300 v2299 x2320 v2321 := h
          unfold J19_7 at h
          refine AW.cond' (by kernel_rfl) h (fun h => ?_) (fun h => ?_)
          · refine AW.regL [(0, none), (1, none), (2, none), (3, none), (4, none)] (by kernel_rfl) ?_
            refine l_det (some 64) (.one (.d (.int .i64 v2299)), []) (by kernel_rfl) ?_
            refine l_det (some 65) (.one (.ref 200002 0 0 2), []) (by kernel_rfl) ?_
            refine l_det (some 66) (.one (.d (.int .i64 x2320.spans)), []) (by kernel_rfl) ?_
            refine l_det (some 67) (.one (.d (.int .i64 (w64 (v2299 + x2320.spans)))), []) (by kernel_rfl) ?_
            refine l_det (some 8) (.one (.d (.int .i64 (w64 (v2299 + x2320.spans)))), []) (by kernel_rfl) ?_
            refine l_nil ?_
            refine q_bfall ?_
            refine q_fall ?_
            exact Lab.mk (w64 (v2299 + x2320.spans)) [(200001, some 200001)] (by kernel_rfl) (by kernel_rfl) (by kernel_rfl) (by kernel_rfl) h
          · refine AW.skip ?_
            refine q_bfall ?_
            refine q_fall ?_
            exact Lab.mk v2299 [(200001, some 200001)] (by kernel_rfl) (by kernel_rfl) (by kernel_rfl) (by kernel_rfl) h
      · rintro v2318 h
        have h : J19_6 N2311 v2300 v2318 := h
        unfold J19_6 at h
        refine AW.regL [(0, none), (1, none)] (by kernel_rfl) ?_
        refine l_det (some 68) (.one (.d (.int .i64 (w64 (v2300 + 1)))), []) (by kernel_rfl) ?_
        refine l_det (some 50) (.one (.d (.int .i64 (w64 (v2300 + 1)))), []) (by kernel_rfl) ?_
        refine l_nil ?_
        refine q_fall ?_
        exact Lab.mk (v2318, (w64 (v2300 + 1))) [(200001, some 200001)] (by kernel_rfl) (by kernel_rfl) (by kernel_rfl) (by kernel_rfl) h
    · refine AW.exit ?_
      refine q_exit ?_
      refine q_exit ?_
      refine q_bhere ?_
      refine q_fall ?_
      refine AW.seq ?_
      refine AW.sregL [(0, none), (1, none), (2, none), (3, none)] (by kernel_rfl) ?_
      refine l_det (some 69) (.one (.ref 200001 0 0 3), []) (by kernel_rfl) ?_
      refine l_det (some 70) (.one (.d (.sl (List.map TLate.enc r_0_19.late))), []) (by kernel_rfl) ?_
      refine l_spec (some 71) (.lens (.t 70)) (.one (.d (.int .i64 (r_0_19.late.length : Int))), []) (by kernel_rfl) (detA_none (d_lens_sl (enc := TLate.enc) r_0_19.late (by kernel_rfl))) ?_
      refine l_det (some 72) (.one (.d (.int .i64 0)), []) (by kernel_rfl) ?_
      refine l_nil ?_
      refine AW.blk ?_
      refine AW.loopL (S := (Int × Int)) (fun s => (fun (v2353 : Int) (v2354 : Int) => [(1, .one (.d (.int .i64 partition_19))), (8, .one (.d (.int .i64 v2299))), (9, .one (.d (.int .i64 v2353))), (70, .one (.d (.sl (List.map TLate.enc r_0_19.late)))), (71, .one (.d (.int .i64 (r_0_19.late.length : Int)))), (72, .one (.d (.int .i64 v2354)))]) s.1 s.2) (fun s => (fun (v2353 : Int) (v2354 : Int) => []) s.1 s.2) (fun (s : (Int × Int)) N2362 => L19_8 r_0_19 partition_19 K v2299 s.1 s.2 N2362) (N := fun s => LoopW (fun (s : (Int × Int)) N2362 => L19_8 r_0_19 partition_19 K v2299 s.1 s.2 N2362) s) (Lab.mk (0, 0) [] (by kernel_rfl) (by kernel_rfl) (by kernel_rfl) (by kernel_rfl) h) (fun _ h => h) ?_
      rintro ⟨v2353, v2354⟩ N2362 h
      have h : L19_8 r_0_19 partition_19 K v2299 v2353 v2354 N2362 := h
      unfold L19_8 at h
      refine AW.sregL [(0, none)] (by kernel_rfl) ?_
      refine l_det (some 73) (.one (.d (.bool (decide (v2354 < (r_0_19.late.length : Int))))), []) (by kernel_rfl) ?_
      refine l_nil ?_
      refine AW.seq ?_
      refine AW.cond' (by kernel_rfl) h (fun h => ?_) (fun h => ?_)
      · refine AW.skip ?_
        refine q_fall ?_
        refine AW.seqL (S := Int) (fun s => (fun (v2367 : Int) => [(1, .one (.d (.int .i64 partition_19))), (8, .one (.d (.int .i64 v2299))), (9, .one (.d (.int .i64 v2367))), (70, .one (.d (.sl (List.map TLate.enc r_0_19.late)))), (71, .one (.d (.int .i64 (r_0_19.late.length : Int)))), (72, .one (.d (.int .i64 v2354)))]) s) (fun s => (fun (v2367 : Int) => []) s) (fun s : Int => J19_9 N2362 v2354 s) ?_ ?_
        · refine AW.blk ?_
          refine AW.sregL [(0, none), (1, none), (2, none), (3, none)] (by kernel_rfl) ?_
          obtain ⟨h947, x2369, h948, h⟩ := h
          refine l_spec (some 74) (.iad 2 (.t 70) (.t 72)) (.one (.d (.ptr [.int .i64 x2369.partition, .int .i64 x2369.spans])), []) (by kernel_rfl) (detA_none (d_iad_sl (enc := TLate.enc) (k := .i64) r_0_19.late x2369 (by kernel_rfl) (by kernel_rfl) h947 h948 rfl)) ?_
          refine l_det (some 75) (.agg [.d (.int .i64 x2369.partition), .d (.int .i64 x2369.spans)], []) (by kernel_rfl) ?_
          refine l_det (some 17) (.one (.ref 17 1 0 0), [(17, 1, .row true 62 2 [[.d (.int .i64 0), .d (.int .i64 0)]])]) (by kernel_rfl) ?_
          refine l_det none (.tup [], [(17, 1, .row true 62 2 [[.d (.int .i64 x2369.partition), .d (.int .i64 x2369.spans)]])]) (by kernel_rfl) ?_
          refine l_nil ?_
          refine AW.sregL [(0, none), (1, none), (2, none), (3, none)] (by kernel_rfl) ?_
          refine l_det (some 76) (.one (.ref 17 1 0 0), []) (by kernel_rfl) ?_
          refine l_det (some 77) (.one (.d (.int .i64 x2369.partition)), []) (by kernel_rfl) ?_
          refine l_det (some 78) (.one (.d (.int .i64 partition_19)), []) (by kernel_rfl) ?_
          refine l_det (some 79) (.one (.d (.bool (decide (x2369.partition = partition_19)))), []) (by kernel_rfl) ?_
          refine l_nil ?_
          refine AW.cond' (by kernel_rfl) h (fun h => ?_) (fun h => ?_)
          · refine AW.regL [(0, none), (1, none), (2, none), (3, none), (4, none)] (by kernel_rfl) ?_
            refine l_det (some 80) (.one (.d (.int .i64 v2353)), []) (by kernel_rfl) ?_
            refine l_det (some 81) (.one (.ref 17 1 0 1), []) (by kernel_rfl) ?_
            refine l_det (some 82) (.one (.d (.int .i64 x2369.spans)), []) (by kernel_rfl) ?_
            refine l_det (some 83) (.one (.d (.int .i64 (w64 (v2353 + x2369.spans)))), []) (by kernel_rfl) ?_
            refine l_det (some 9) (.one (.d (.int .i64 (w64 (v2353 + x2369.spans)))), []) (by kernel_rfl) ?_
            refine l_nil ?_
            refine q_bfall ?_
            refine q_fall ?_
            exact Lab.mk (w64 (v2353 + x2369.spans)) [] (by kernel_rfl) (by kernel_rfl) (by kernel_rfl) (by kernel_rfl) h
          · refine AW.skip ?_
            refine q_bfall ?_
            refine q_fall ?_
            exact Lab.mk v2353 [] (by kernel_rfl) (by kernel_rfl) (by kernel_rfl) (by kernel_rfl) h
        · rintro v2367 h
          have h : J19_9 N2362 v2354 v2367 := h
          unfold J19_9 at h
          refine AW.regL [(0, none), (1, none)] (by kernel_rfl) ?_
          refine l_det (some 84) (.one (.d (.int .i64 (w64 (v2354 + 1)))), []) (by kernel_rfl) ?_
          refine l_det (some 72) (.one (.d (.int .i64 (w64 (v2354 + 1)))), []) (by kernel_rfl) ?_
          refine l_nil ?_
          refine q_fall ?_
          exact Lab.mk (v2367, (w64 (v2354 + 1))) [] (by kernel_rfl) (by kernel_rfl) (by kernel_rfl) (by kernel_rfl) h
      · refine AW.exit ?_
        refine q_exit ?_
        refine q_exit ?_
        refine q_bhere ?_
        refine q_fall ?_
        refine AW.sregL [(0, none), (1, none), (2, none), (3, none), (4, none), (5, none), (6, none), (7, none), (8, none)] (by kernel_rfl) ?_
        refine l_det (some 85) (.one (.d (.int .i64 v2299)), []) (by kernel_rfl) ?_
        refine l_det (some 86) (.one (.d (.int .i64 v2353)), []) (by kernel_rfl) ?_
        refine l_det (some 87) (.one (.d (.int .i64 (w64 (v2299 - v2353)))), []) (by kernel_rfl) ?_
        refine l_det (some 88) (.one (.d (.int .i64 (if (w64 (v2299 - v2353)) > 0 then (w64 (v2299 - v2353)) else 0))), []) (by kernel_rfl) ?_
        refine l_det (some 89) (.one (.d (.int .i64 v2299)), []) (by kernel_rfl) ?_
        refine l_det (some 90) (.one (.d (.int .i64 v2353)), []) (by kernel_rfl) ?_
        refine l_det (some 91) (.one (.d (.int .i64 (w64 (v2299 + v2353)))), []) (by kernel_rfl) ?_
        refine l_det (some 6) (.one (.d (.int .i64 (if (w64 (v2299 - v2353)) > 0 then (w64 (v2299 - v2353)) else 0))), []) (by kernel_rfl) ?_
        refine l_det (some 7) (.one (.d (.int .i64 (w64 (v2299 + v2353)))), []) (by kernel_rfl) ?_
        refine l_nil ?_
        refine AW.ret ?_
        exact q_end [.one (.d (.int .i64 (if (w64 (v2299 - v2353)) > 0 then (w64 (v2299 - v2353)) else 0))), .one (.d (.int .i64 (w64 (v2299 + v2353))))] [false, false] [.one (.d (.int .i64 (if (w64 (v2299 - v2353)) > 0 then (w64 (v2299 - v2353)) else 0))), .one (.d (.int .i64 (w64 (v2299 + v2353))))] [] [] (by kernel_rfl) ⟨by kernel_rfl, by kernel_rfl⟩ (by kernel_rfl) (by kernel_rfl) (by kernel_rfl) (by kernel_rfl) (Eq.mp (by kernel_rfl) (hK ((if (w64 (v2299 - v2353)) > 0 then (w64 (v2299 - v2353)) else 0), (w64 (v2299 + v2353))) h)) (.inr rfl)
def r37_0 : List AR := [⟨some 2, .mov (.c .nilf), [], none⟩,
  ⟨some 3, .mov (.c (.bool false)), [0], none⟩]
def r37_1 : List AR := [⟨some 4, .mov (.t 0), [], none⟩]
def r37_2 : List AR := [⟨some 6, .bin .eql (.t 4) (.c (.int .i64 1)), [], none⟩,
  ⟨some 5, .mov (.t 6), [0], none⟩]
def r37_3 : List AR := [⟨some 2, .mov (.f 62), [], none⟩,
  ⟨some 3, .mov (.c (.bool true)), [0, 0], none⟩]
def r37_4 : List AR := [⟨some 8, .bin .eql (.t 4) (.c (.int .i64 2)), [], none⟩,
  ⟨some 7, .mov (.t 8), [0], none⟩]
def r37_5 : List AR := [⟨some 2, .mov (.f 63), [], none⟩,
  ⟨some 3, .mov (.c (.bool true)), [0, 0], none⟩]
def r37_6 : List AR := [⟨some 10, .bin .eql (.t 4) (.c (.int .i64 3)), [], none⟩,
  ⟨some 9, .mov (.t 10), [0], none⟩]
def r37_7 : List AR := [⟨some 2, .mov (.f 64), [], none⟩,
  ⟨some 3, .mov (.c (.bool true)), [0, 0], none⟩]
def r37_8 : List AR := [⟨some 2, .mov (.c .nilf), [], none⟩,
  ⟨some 3, .mov (.c (.bool false)), [0, 0], none⟩]
def c37 : ACode := .seq (.reg r37_0 false) (.seq (.seq (.reg r37_1 false) (.blk 0 (.seq (.reg r37_2 false) (.cond (.t 5) (.seq (.reg r37_3 false) (.ret)) (.seq (.reg r37_4 false) (.cond (.t 7) (.seq (.reg r37_5 false) (.ret)) (.seq (.reg r37_6 false) (.cond (.t 9) (.seq (.reg r37_7 false) (.ret)) (.skip))))))))) (.seq (.reg r37_8 false) (.ret)))
theorem body37 : Try.f37.body.map (comp Try.prog 11) = some c37 := by kernel_rfl
theorem res37 : allSome (Try.f37.results.toList.map (compRes Try.prog)) = some [.s 2, .s 3] := by kernel_rfl
theorem cok37 {S : FSpec} (h : ∀ args K, S args K → args.all argOk = true ∧ args.length ≤ 11 ∧ AW Try.prog 11 (some ownP) c37 (initS args) (retPost [.s 2, .s 3] args K)) : COK Try.prog 37 S := of_body Try.func37 Try.ntmps37 body37 res37 h

/-- sleuth/estimate.grouping -/
def W37 (level_37 : Int) (K : (C × Bool) → Prop) : Prop :=
  Cond (decide (level_37 = 1)) (K ((.fn 62 []), true)) (Cond (decide (level_37 = 2)) (K ((.fn 63 []), true)) (Cond (decide (level_37 = 3)) (K ((.fn 64 []), true)) (K (.nilf, false))))

def S37 : FSpec := fun args K => ∃ (level_37 : Int), ∃ (Kr : (C × Bool) → Prop), args = [.one (.d (.int .i64 level_37))] ∧ W37 level_37 Kr ∧ ∀ r, Kr r → K (.tup [.one (.d r.1), .one (.d (.bool r.2))]) []

theorem en37 : enters Try.prog 37 = true := by unfold enters; rw [Try.func37]; rfl
theorem cl37 (level_37 : Int) {Kr : (C × Bool) → Prop} (h : W37 level_37 Kr) : S37 [.one (.d (.int .i64 level_37))] (fun rv rows => ∃ r, rv = (.tup [.one (.d r.1), .one (.d (.bool r.2))]) ∧ rows = [] ∧ Kr r) := ⟨level_37, Kr, rfl, h, fun r hr => ⟨r, rfl, rfl, hr⟩⟩

theorem ok37 : COK Try.prog 37 S37 := by
  refine cok37 fun args K0 hS => ?_
  obtain ⟨level_37, K, rfl, h, hK⟩ := hS
  refine ⟨by kernel_rfl, by simp, ?_⟩
  unfold W37 at h
  refine AW.sregL [(0, none), (1, none)] (by kernel_rfl) ?_
  refine l_det (some 2) (.one (.d .nilf), []) (by kernel_rfl) ?_
  refine l_det (some 3) (.one (.d (.bool false)), []) (by kernel_rfl) ?_
  refine l_nil ?_
  refine AW.seq ?_
  refine AW.sregL [(0, none)] (by kernel_rfl) ?_
  refine l_det (some 4) (.one (.d (.int .i64 level_37)), []) (by kernel_rfl) ?_
  refine l_nil ?_
  refine AW.blk ?_
  refine AW.sregL [(0, none), (1, none)] (by kernel_rfl) ?_
  refine l_det (some 6) (.one (.d (.bool (decide (level_37 = 1)))), []) (by kernel_rfl) ?_
  refine l_det (some 5) (.one (.d (.bool (decide (level_37 = 1)))), []) (by kernel_rfl) ?_
  refine l_nil ?_
  refine AW.cond' (by kernel_rfl) h (fun h => ?_) (fun h => ?_)
  · refine AW.sregL [(0, none), (1, none)] (by kernel_rfl) ?_
    refine l_det (some 2) (.one (.fn 62 []), []) (by kernel_rfl) ?_
    refine l_det (some 3) (.one (.d (.bool true)), []) (by kernel_rfl) ?_
    refine l_nil ?_
    refine AW.ret ?_
    refine q_bret ?_
    refine q_ret ?_
    exact q_end [.one (.fn 62 []), .one (.d (.bool true))] [false, false] [.one (.d (.fn 62 [])), .one (.d (.bool true))] [] [] (by kernel_rfl) ⟨by kernel_rfl, by kernel_rfl⟩ (by kernel_rfl) (by kernel_rfl) (by kernel_rfl) (by kernel_rfl) (Eq.mp (by kernel_rfl) (hK ((.fn 62 []), true) h)) (.inr rfl)
  · refine AW.sregL [(0, none), (1, none)] (by kernel_rfl) ?_
    refine l_det (some 8) (.one (.d (.bool (decide (level_37 = 2)))), []) (by kernel_rfl) ?_
    refine l_det (some 7) (.one (.d (.bool (decide (level_37 = 2)))), []) (by kernel_rfl) ?_
    refine l_nil ?_
    refine AW.cond' (by kernel_rfl) h (fun h => ?_) (fun h => ?_)
    · refine AW.sregL [(0, none), (1, none)] (by kernel_rfl) ?_
      refine l_det (some 2) (.one (.fn 63 []), []) (by kernel_rfl) ?_
      refine l_det (some 3) (.one (.d (.bool true)), []) (by kernel_rfl) ?_
      refine l_nil ?_
      refine AW.ret ?_
      refine q_bret ?_
      refine q_ret ?_
      exact q_end [.one (.fn 63 []), .one (.d (.bool true))] [false, false] [.one (.d (.fn 63 [])), .one (.d (.bool true))] [] [] (by kernel_rfl) ⟨by kernel_rfl, by kernel_rfl⟩ (by kernel_rfl) (by kernel_rfl) (by kernel_rfl) (by kernel_rfl) (Eq.mp (by kernel_rfl) (hK ((.fn 63 []), true) h)) (.inr rfl)
    · refine AW.sregL [(0, none), (1, none)] (by kernel_rfl) ?_
      refine l_det (some 10) (.one (.d (.bool (decide (level_37 = 3)))), []) (by kernel_rfl) ?_
      refine l_det (some 9) (.one (.d (.bool (decide (level_37 = 3)))), []) (by kernel_rfl) ?_
      refine l_nil ?_
      refine AW.cond' (by kernel_rfl) h (fun h => ?_) (fun h => ?_)
      · refine AW.sregL [(0, none), (1, none)] (by kernel_rfl) ?_
        refine l_det (some 2) (.one (.fn 64 []), []) (by kernel_rfl) ?_
        refine l_det (some 3) (.one (.d (.bool true)), []) (by kernel_rfl) ?_
        refine l_nil ?_
        refine AW.ret ?_
        refine q_bret ?_
        refine q_ret ?_
        exact q_end [.one (.fn 64 []), .one (.d (.bool true))] [false, false] [.one (.d (.fn 64 [])), .one (.d (.bool true))] [] [] (by kernel_rfl) ⟨by kernel_rfl, by kernel_rfl⟩ (by kernel_rfl) (by kernel_rfl) (by kernel_rfl) (by kernel_rfl) (Eq.mp (by kernel_rfl) (hK ((.fn 64 []), true) h)) (.inr rfl)
      · refine AW.skip ?_
        refine q_bfall ?_
        refine q_fall ?_
        refine AW.sregL [(0, none), (1, none)] (by kernel_rfl) ?_
        refine l_det (some 2) (.one (.d .nilf), []) (by kernel_rfl) ?_
        refine l_det (some 3) (.one (.d (.bool false)), []) (by kernel_rfl) ?_
        refine l_nil ?_
        refine AW.ret ?_
        exact q_end [.one (.d .nilf), .one (.d (.bool false))] [false, false] [.one (.d (.nilf)), .one (.d (.bool false))] [] [] (by kernel_rfl) ⟨by kernel_rfl, by kernel_rfl⟩ (by kernel_rfl) (by kernel_rfl) (by kernel_rfl) (by kernel_rfl) (Eq.mp (by kernel_rfl) (hK (.nilf, false) h)) (.inr rfl)
def r62_0 : List AR := [⟨some 1, .box 58 true 14 (.t 0), [], none⟩,
  ⟨some 2, .alloc 39 true [.str ⟨#[]⟩, .str ⟨#[]⟩, .str ⟨#[]⟩], [], none⟩]
def r62_1 : List AR := [⟨some 3, .fad (.t 1) 6, [], none⟩,
  ⟨some 4, .ld false 1 (.t 3), [0], none⟩,
  ⟨some 5, .bld [.str ⟨#[]⟩, .str ⟨#[]⟩, .str ⟨#[]⟩] [(0, 1, .t 4)], [1], none⟩,
  ⟨none, .st 3 (.t 2) (.t 5), [2, 0, 1, 2], none⟩]
def c62 : ACode := .seq (.reg r62_0 false) (.seq (.reg r62_1 false) (.ret))
theorem body62 : Try.f62.body.map (comp Try.prog 6) = some c62 := by kernel_rfl
theorem res62 : allSome (Try.f62.results.toList.map (compRes Try.prog)) = some [.c 2 true 3] := by kernel_rfl
theorem cok62 {S : FSpec} (h : ∀ args K, S args K → args.all argOk = true ∧ args.length ≤ 6 ∧ AW Try.prog 6 (some ownP) c62 (initS args) (retPost [.c 2 true 3] args K)) : COK Try.prog 62 S := of_body Try.func62 Try.ntmps62 body62 res62 h

/-- sleuth/estimate.grouping$1 -/
def W62 (s_62 : TSpan) (K : TGroup → Prop) : Prop :=
  K (TGroup.mk s_62.service (⟨#[]⟩ : ByteArray) (⟨#[]⟩ : ByteArray))

def S62 : FSpec := fun args K => ∃ (s_62 : TSpan), ∃ (Kr : TGroup → Prop), args = [.agg (List.map RC.d (TSpan.enc s_62))] ∧ W62 s_62 Kr ∧ ∀ r, Kr r → K (.agg (List.map RC.d (TGroup.enc r))) []

theorem en62 : enters Try.prog 62 = true := by unfold enters; rw [Try.func62]; rfl
theorem cl62 (s_62 : TSpan) {Kr : TGroup → Prop} (h : W62 s_62 Kr) : S62 [.agg (List.map RC.d (TSpan.enc s_62))] (fun rv rows => ∃ r, rv = (.agg (List.map RC.d (TGroup.enc r))) ∧ rows = [] ∧ Kr r) := ⟨s_62, Kr, rfl, h, fun r hr => ⟨r, rfl, rfl, hr⟩⟩

theorem ok62 : COK Try.prog 62 S62 := by
  refine cok62 fun args K0 hS => ?_
  obtain ⟨s_62, K, rfl, h, hK⟩ := hS
  refine ⟨by kernel_rfl, by simp, ?_⟩
  unfold W62 at h
  refine AW.sregL [(0, none), (1, none)] (by kernel_rfl) ?_
  refine l_det (some 1) (.one (.ref 1 1 0 0), [(1, 1, .row true 58 14 [[.d (.int .i64 s_62.trace), .d (.int .i64 s_62.id), .d (.int .i64 s_62.parent), .d (.int .i64 s_62.revision), .d (.int .i64 s_62.clock), .d (.int .i64 s_62.kind), .d (.str s_62.service), .d (.str s_62.version), .d (.str s_62.operation), .d (.int .i64 s_62.start), .d (.int .i64 s_62.end_), .d (.bool s_62.error), .d (.sl (List.map TAttr.enc s_62.attrs)), .d (.sl (List.map TRef.enc s_62.links))]])]) (by kernel_rfl) ?_
  refine l_det (some 2) (.one (.ref 2 1 0 0), [(2, 1, .row true 39 3 [[.d (.str (⟨#[]⟩ : ByteArray)), .d (.str (⟨#[]⟩ : ByteArray)), .d (.str (⟨#[]⟩ : ByteArray))]])]) (by kernel_rfl) ?_
  refine l_nil ?_
  refine AW.sregL [(0, none), (1, none), (2, none), (3, none)] (by kernel_rfl) ?_
  refine l_det (some 3) (.one (.ref 1 1 0 6), []) (by kernel_rfl) ?_
  refine l_det (some 4) (.one (.d (.str s_62.service)), []) (by kernel_rfl) ?_
  refine l_det (some 5) (.agg [.d (.str s_62.service), .d (.str (⟨#[]⟩ : ByteArray)), .d (.str (⟨#[]⟩ : ByteArray))], []) (by kernel_rfl) ?_
  refine l_det none (.tup [], [(2, 1, .row true 39 3 [[.d (.str s_62.service), .d (.str (⟨#[]⟩ : ByteArray)), .d (.str (⟨#[]⟩ : ByteArray))]])]) (by kernel_rfl) ?_
  refine l_nil ?_
  refine AW.ret ?_
  exact q_end [.agg [.d (.str s_62.service), .d (.str (⟨#[]⟩ : ByteArray)), .d (.str (⟨#[]⟩ : ByteArray))]] [false] [.agg (List.map RC.d [.str s_62.service, .str (⟨#[]⟩ : ByteArray), .str (⟨#[]⟩ : ByteArray)])] [] [] (by kernel_rfl) ⟨by kernel_rfl, by kernel_rfl⟩ (by kernel_rfl) (by kernel_rfl) (by kernel_rfl) (by kernel_rfl) (Eq.mp (by kernel_rfl) (hK (TGroup.mk s_62.service (⟨#[]⟩ : ByteArray) (⟨#[]⟩ : ByteArray)) h)) (.inr rfl)
def r63_0 : List AR := [⟨some 1, .box 58 true 14 (.t 0), [], none⟩,
  ⟨some 2, .alloc 39 true [.str ⟨#[]⟩, .str ⟨#[]⟩, .str ⟨#[]⟩], [], none⟩]
def r63_1 : List AR := [⟨some 3, .fad (.t 1) 6, [], none⟩,
  ⟨some 4, .ld false 1 (.t 3), [0], none⟩,
  ⟨some 5, .fad (.t 1) 7, [], none⟩,
  ⟨some 6, .ld false 1 (.t 5), [2], none⟩,
  ⟨some 7, .bld [.str ⟨#[]⟩, .str ⟨#[]⟩, .str ⟨#[]⟩] [(0, 1, .t 4), (1, 1, .t 6)], [1, 3], none⟩,
  ⟨none, .st 3 (.t 2) (.t 7), [4, 0, 1, 2, 3, 4], none⟩]
def c63 : ACode := .seq (.reg r63_0 false) (.seq (.reg r63_1 false) (.ret))
theorem body63 : Try.f63.body.map (comp Try.prog 8) = some c63 := by kernel_rfl
theorem res63 : allSome (Try.f63.results.toList.map (compRes Try.prog)) = some [.c 2 true 3] := by kernel_rfl
theorem cok63 {S : FSpec} (h : ∀ args K, S args K → args.all argOk = true ∧ args.length ≤ 8 ∧ AW Try.prog 8 (some ownP) c63 (initS args) (retPost [.c 2 true 3] args K)) : COK Try.prog 63 S := of_body Try.func63 Try.ntmps63 body63 res63 h

/-- sleuth/estimate.grouping$2 -/
def W63 (s_63 : TSpan) (K : TGroup → Prop) : Prop :=
  K (TGroup.mk s_63.service s_63.version (⟨#[]⟩ : ByteArray))

def S63 : FSpec := fun args K => ∃ (s_63 : TSpan), ∃ (Kr : TGroup → Prop), args = [.agg (List.map RC.d (TSpan.enc s_63))] ∧ W63 s_63 Kr ∧ ∀ r, Kr r → K (.agg (List.map RC.d (TGroup.enc r))) []

theorem en63 : enters Try.prog 63 = true := by unfold enters; rw [Try.func63]; rfl
theorem cl63 (s_63 : TSpan) {Kr : TGroup → Prop} (h : W63 s_63 Kr) : S63 [.agg (List.map RC.d (TSpan.enc s_63))] (fun rv rows => ∃ r, rv = (.agg (List.map RC.d (TGroup.enc r))) ∧ rows = [] ∧ Kr r) := ⟨s_63, Kr, rfl, h, fun r hr => ⟨r, rfl, rfl, hr⟩⟩

theorem ok63 : COK Try.prog 63 S63 := by
  refine cok63 fun args K0 hS => ?_
  obtain ⟨s_63, K, rfl, h, hK⟩ := hS
  refine ⟨by kernel_rfl, by simp, ?_⟩
  unfold W63 at h
  refine AW.sregL [(0, none), (1, none)] (by kernel_rfl) ?_
  refine l_det (some 1) (.one (.ref 1 1 0 0), [(1, 1, .row true 58 14 [[.d (.int .i64 s_63.trace), .d (.int .i64 s_63.id), .d (.int .i64 s_63.parent), .d (.int .i64 s_63.revision), .d (.int .i64 s_63.clock), .d (.int .i64 s_63.kind), .d (.str s_63.service), .d (.str s_63.version), .d (.str s_63.operation), .d (.int .i64 s_63.start), .d (.int .i64 s_63.end_), .d (.bool s_63.error), .d (.sl (List.map TAttr.enc s_63.attrs)), .d (.sl (List.map TRef.enc s_63.links))]])]) (by kernel_rfl) ?_
  refine l_det (some 2) (.one (.ref 2 1 0 0), [(2, 1, .row true 39 3 [[.d (.str (⟨#[]⟩ : ByteArray)), .d (.str (⟨#[]⟩ : ByteArray)), .d (.str (⟨#[]⟩ : ByteArray))]])]) (by kernel_rfl) ?_
  refine l_nil ?_
  refine AW.sregL [(0, none), (1, none), (2, none), (3, none), (4, none), (5, none)] (by kernel_rfl) ?_
  refine l_det (some 3) (.one (.ref 1 1 0 6), []) (by kernel_rfl) ?_
  refine l_det (some 4) (.one (.d (.str s_63.service)), []) (by kernel_rfl) ?_
  refine l_det (some 5) (.one (.ref 1 1 0 7), []) (by kernel_rfl) ?_
  refine l_det (some 6) (.one (.d (.str s_63.version)), []) (by kernel_rfl) ?_
  refine l_det (some 7) (.agg [.d (.str s_63.service), .d (.str s_63.version), .d (.str (⟨#[]⟩ : ByteArray))], []) (by kernel_rfl) ?_
  refine l_det none (.tup [], [(2, 1, .row true 39 3 [[.d (.str s_63.service), .d (.str s_63.version), .d (.str (⟨#[]⟩ : ByteArray))]])]) (by kernel_rfl) ?_
  refine l_nil ?_
  refine AW.ret ?_
  exact q_end [.agg [.d (.str s_63.service), .d (.str s_63.version), .d (.str (⟨#[]⟩ : ByteArray))]] [false] [.agg (List.map RC.d [.str s_63.service, .str s_63.version, .str (⟨#[]⟩ : ByteArray)])] [] [] (by kernel_rfl) ⟨by kernel_rfl, by kernel_rfl⟩ (by kernel_rfl) (by kernel_rfl) (by kernel_rfl) (by kernel_rfl) (Eq.mp (by kernel_rfl) (hK (TGroup.mk s_63.service s_63.version (⟨#[]⟩ : ByteArray)) h)) (.inr rfl)
def r64_0 : List AR := [⟨some 1, .box 58 true 14 (.t 0), [], none⟩,
  ⟨some 2, .alloc 39 true [.str ⟨#[]⟩, .str ⟨#[]⟩, .str ⟨#[]⟩], [], none⟩]
def r64_1 : List AR := [⟨some 3, .fad (.t 1) 6, [], none⟩,
  ⟨some 4, .ld false 1 (.t 3), [0], none⟩,
  ⟨some 5, .fad (.t 1) 8, [], none⟩,
  ⟨some 6, .ld false 1 (.t 5), [2], none⟩,
  ⟨some 7, .bld [.str ⟨#[]⟩, .str ⟨#[]⟩, .str ⟨#[]⟩] [(0, 1, .t 4), (2, 1, .t 6)], [1, 3], none⟩,
  ⟨none, .st 3 (.t 2) (.t 7), [4, 0, 1, 2, 3, 4], none⟩]
def c64 : ACode := .seq (.reg r64_0 false) (.seq (.reg r64_1 false) (.ret))
theorem body64 : Try.f64.body.map (comp Try.prog 8) = some c64 := by kernel_rfl
theorem res64 : allSome (Try.f64.results.toList.map (compRes Try.prog)) = some [.c 2 true 3] := by kernel_rfl
theorem cok64 {S : FSpec} (h : ∀ args K, S args K → args.all argOk = true ∧ args.length ≤ 8 ∧ AW Try.prog 8 (some ownP) c64 (initS args) (retPost [.c 2 true 3] args K)) : COK Try.prog 64 S := of_body Try.func64 Try.ntmps64 body64 res64 h

/-- sleuth/estimate.grouping$3 -/
def W64 (s_64 : TSpan) (K : TGroup → Prop) : Prop :=
  K (TGroup.mk s_64.service (⟨#[]⟩ : ByteArray) s_64.operation)

def S64 : FSpec := fun args K => ∃ (s_64 : TSpan), ∃ (Kr : TGroup → Prop), args = [.agg (List.map RC.d (TSpan.enc s_64))] ∧ W64 s_64 Kr ∧ ∀ r, Kr r → K (.agg (List.map RC.d (TGroup.enc r))) []

theorem en64 : enters Try.prog 64 = true := by unfold enters; rw [Try.func64]; rfl
theorem cl64 (s_64 : TSpan) {Kr : TGroup → Prop} (h : W64 s_64 Kr) : S64 [.agg (List.map RC.d (TSpan.enc s_64))] (fun rv rows => ∃ r, rv = (.agg (List.map RC.d (TGroup.enc r))) ∧ rows = [] ∧ Kr r) := ⟨s_64, Kr, rfl, h, fun r hr => ⟨r, rfl, rfl, hr⟩⟩

theorem ok64 : COK Try.prog 64 S64 := by
  refine cok64 fun args K0 hS => ?_
  obtain ⟨s_64, K, rfl, h, hK⟩ := hS
  refine ⟨by kernel_rfl, by simp, ?_⟩
  unfold W64 at h
  refine AW.sregL [(0, none), (1, none)] (by kernel_rfl) ?_
  refine l_det (some 1) (.one (.ref 1 1 0 0), [(1, 1, .row true 58 14 [[.d (.int .i64 s_64.trace), .d (.int .i64 s_64.id), .d (.int .i64 s_64.parent), .d (.int .i64 s_64.revision), .d (.int .i64 s_64.clock), .d (.int .i64 s_64.kind), .d (.str s_64.service), .d (.str s_64.version), .d (.str s_64.operation), .d (.int .i64 s_64.start), .d (.int .i64 s_64.end_), .d (.bool s_64.error), .d (.sl (List.map TAttr.enc s_64.attrs)), .d (.sl (List.map TRef.enc s_64.links))]])]) (by kernel_rfl) ?_
  refine l_det (some 2) (.one (.ref 2 1 0 0), [(2, 1, .row true 39 3 [[.d (.str (⟨#[]⟩ : ByteArray)), .d (.str (⟨#[]⟩ : ByteArray)), .d (.str (⟨#[]⟩ : ByteArray))]])]) (by kernel_rfl) ?_
  refine l_nil ?_
  refine AW.sregL [(0, none), (1, none), (2, none), (3, none), (4, none), (5, none)] (by kernel_rfl) ?_
  refine l_det (some 3) (.one (.ref 1 1 0 6), []) (by kernel_rfl) ?_
  refine l_det (some 4) (.one (.d (.str s_64.service)), []) (by kernel_rfl) ?_
  refine l_det (some 5) (.one (.ref 1 1 0 8), []) (by kernel_rfl) ?_
  refine l_det (some 6) (.one (.d (.str s_64.operation)), []) (by kernel_rfl) ?_
  refine l_det (some 7) (.agg [.d (.str s_64.service), .d (.str (⟨#[]⟩ : ByteArray)), .d (.str s_64.operation)], []) (by kernel_rfl) ?_
  refine l_det none (.tup [], [(2, 1, .row true 39 3 [[.d (.str s_64.service), .d (.str (⟨#[]⟩ : ByteArray)), .d (.str s_64.operation)]])]) (by kernel_rfl) ?_
  refine l_nil ?_
  refine AW.ret ?_
  exact q_end [.agg [.d (.str s_64.service), .d (.str (⟨#[]⟩ : ByteArray)), .d (.str s_64.operation)]] [false] [.agg (List.map RC.d [.str s_64.service, .str (⟨#[]⟩ : ByteArray), .str s_64.operation])] [] [] (by kernel_rfl) ⟨by kernel_rfl, by kernel_rfl⟩ (by kernel_rfl) (by kernel_rfl) (by kernel_rfl) (by kernel_rfl) (Eq.mp (by kernel_rfl) (hK (TGroup.mk s_64.service (⟨#[]⟩ : ByteArray) s_64.operation) h)) (.inr rfl)
def r38_0 : List AR := [⟨some 1, .box 58 true 14 (.t 0), [], none⟩,
  ⟨some 2, .mov (.c (.int .i64 0)), [], none⟩]
def r38_1 : List AR := [⟨some 3, .fad (.t 1) 10, [], none⟩,
  ⟨some 4, .ld false 1 (.t 3), [0], none⟩,
  ⟨some 5, .fad (.t 1) 9, [], none⟩,
  ⟨some 6, .ld false 1 (.t 5), [2], none⟩,
  ⟨some 7, .bin .sub (.t 4) (.t 6), [1, 3], none⟩,
  ⟨some 2, .mov (.t 7), [4, 0, 1, 2, 3, 4], none⟩]
def c38 : ACode := .seq (.reg r38_0 false) (.seq (.reg r38_1 false) (.ret))
theorem body38 : Try.f38.body.map (comp Try.prog 8) = some c38 := by kernel_rfl
theorem res38 : allSome (Try.f38.results.toList.map (compRes Try.prog)) = some [.s 2] := by kernel_rfl
theorem cok38 {S : FSpec} (h : ∀ args K, S args K → args.all argOk = true ∧ args.length ≤ 8 ∧ AW Try.prog 8 (some ownP) c38 (initS args) (retPost [.s 2] args K)) : COK Try.prog 38 S := of_body Try.func38 Try.ntmps38 body38 res38 h

/-- sleuth/span.Duration -/
def W38 (s_38 : TSpan) (K : Int → Prop) : Prop :=
  K (w64 (s_38.end_ - s_38.start))

def S38 : FSpec := fun args K => ∃ (s_38 : TSpan), ∃ (Kr : Int → Prop), args = [.agg (List.map RC.d (TSpan.enc s_38))] ∧ W38 s_38 Kr ∧ ∀ r, Kr r → K (.one (.d (.int .i64 r))) []

theorem en38 : enters Try.prog 38 = true := by unfold enters; rw [Try.func38]; rfl
theorem cl38 (s_38 : TSpan) {Kr : Int → Prop} (h : W38 s_38 Kr) : S38 [.agg (List.map RC.d (TSpan.enc s_38))] (fun rv rows => ∃ r, rv = (.one (.d (.int .i64 r))) ∧ rows = [] ∧ Kr r) := ⟨s_38, Kr, rfl, h, fun r hr => ⟨r, rfl, rfl, hr⟩⟩

theorem ok38 : COK Try.prog 38 S38 := by
  refine cok38 fun args K0 hS => ?_
  obtain ⟨s_38, K, rfl, h, hK⟩ := hS
  refine ⟨by kernel_rfl, by simp, ?_⟩
  unfold W38 at h
  refine AW.sregL [(0, none), (1, none)] (by kernel_rfl) ?_
  refine l_det (some 1) (.one (.ref 1 1 0 0), [(1, 1, .row true 58 14 [[.d (.int .i64 s_38.trace), .d (.int .i64 s_38.id), .d (.int .i64 s_38.parent), .d (.int .i64 s_38.revision), .d (.int .i64 s_38.clock), .d (.int .i64 s_38.kind), .d (.str s_38.service), .d (.str s_38.version), .d (.str s_38.operation), .d (.int .i64 s_38.start), .d (.int .i64 s_38.end_), .d (.bool s_38.error), .d (.sl (List.map TAttr.enc s_38.attrs)), .d (.sl (List.map TRef.enc s_38.links))]])]) (by kernel_rfl) ?_
  refine l_det (some 2) (.one (.d (.int .i64 0)), []) (by kernel_rfl) ?_
  refine l_nil ?_
  refine AW.sregL [(0, none), (1, none), (2, none), (3, none), (4, none), (5, none)] (by kernel_rfl) ?_
  refine l_det (some 3) (.one (.ref 1 1 0 10), []) (by kernel_rfl) ?_
  refine l_det (some 4) (.one (.d (.int .i64 s_38.end_)), []) (by kernel_rfl) ?_
  refine l_det (some 5) (.one (.ref 1 1 0 9), []) (by kernel_rfl) ?_
  refine l_det (some 6) (.one (.d (.int .i64 s_38.start)), []) (by kernel_rfl) ?_
  refine l_det (some 7) (.one (.d (.int .i64 (w64 (s_38.end_ - s_38.start)))), []) (by kernel_rfl) ?_
  refine l_det (some 2) (.one (.d (.int .i64 (w64 (s_38.end_ - s_38.start)))), []) (by kernel_rfl) ?_
  refine l_nil ?_
  refine AW.ret ?_
  exact q_end [.one (.d (.int .i64 (w64 (s_38.end_ - s_38.start))))] [false] [.one (.d (.int .i64 (w64 (s_38.end_ - s_38.start))))] [] [] (by kernel_rfl) ⟨by kernel_rfl, by kernel_rfl⟩ (by kernel_rfl) (by kernel_rfl) (by kernel_rfl) (by kernel_rfl) (Eq.mp (by kernel_rfl) (hK (w64 (s_38.end_ - s_38.start)) h)) (.inr rfl)
def r39_0 : List AR := [⟨some 2, .box 37 true 4 (.t 0), [], none⟩,
  ⟨some 3, .box 37 true 4 (.t 1), [], none⟩,
  ⟨some 4, .alloc 37 true [.int .i64 0, .int .i64 0, .int .i64 0, .int .i64 0], [], none⟩]
def r39_1 : List AR := [⟨some 5, .fad (.t 2) 0, [], none⟩,
  ⟨some 6, .ld false 1 (.t 5), [0], none⟩,
  ⟨some 7, .fad (.t 3) 0, [], none⟩,
  ⟨some 8, .ld false 1 (.t 7), [2], none⟩,
  ⟨some 9, .bin .add (.t 6) (.t 8), [1, 3], none⟩,
  ⟨some 10, .fad (.t 2) 1, [], none⟩,
  ⟨some 11, .ld false 1 (.t 10), [5], none⟩,
  ⟨some 12, .fad (.t 3) 1, [], none⟩,
  ⟨some 13, .ld false 1 (.t 12), [7], none⟩,
  ⟨some 14, .bin .add (.t 11) (.t 13), [6, 8], none⟩,
  ⟨some 15, .fad (.t 2) 2, [], none⟩,
  ⟨some 16, .ld false 1 (.t 15), [10], none⟩,
  ⟨some 17, .fad (.t 3) 2, [], none⟩,
  ⟨some 18, .ld false 1 (.t 17), [12], none⟩,
  ⟨some 19, .bin .add (.t 16) (.t 18), [11, 13], none⟩,
  ⟨some 20, .fad (.t 2) 3, [], none⟩,
  ⟨some 21, .ld false 1 (.t 20), [15], none⟩,
  ⟨some 22, .fad (.t 3) 3, [], none⟩,
  ⟨some 23, .ld false 1 (.t 22), [17], none⟩,
  ⟨some 24, .bin .add (.t 21) (.t 23), [16, 18], none⟩,
  ⟨some 25, .bld [.int .i64 0, .int .i64 0, .int .i64 0, .int .i64 0] [(0, 1, .t 9), (1, 1, .t 14), (2, 1, .t 19), (3, 1, .t 24)], [4, 9, 14, 19], none⟩,
  ⟨none, .st 4 (.t 4) (.t 25), [20, 0, 1, 2, 3, 4, 5, 6, 7, 8, 9, 10, 11, 12, 13, 14, 15, 16, 17, 18, 19, 20], none⟩]
def c39 : ACode := .seq (.reg r39_0 false) (.seq (.reg r39_1 false) (.ret))
theorem body39 : Try.f39.body.map (comp Try.prog 26) = some c39 := by kernel_rfl
theorem res39 : allSome (Try.f39.results.toList.map (compRes Try.prog)) = some [.c 4 true 4] := by kernel_rfl
theorem cok39 {S : FSpec} (h : ∀ args K, S args K → args.all argOk = true ∧ args.length ≤ 26 ∧ AW Try.prog 26 (some ownP) c39 (initS args) (retPost [.c 4 true 4] args K)) : COK Try.prog 39 S := of_body Try.func39 Try.ntmps39 body39 res39 h

/-- (sleuth/estimate.Total).plus -/
def W39 (t_39 : TTotal) (o_39 : TTotal) (K : TTotal → Prop) : Prop :=
  K (TTotal.mk (w64 (t_39.spans + o_39.spans)) (w64 (t_39.errors + o_39.errors)) (w64 (t_39.duration + o_39.duration)) (w64 (t_39.traces + o_39.traces)))

def S39 : FSpec := fun args K => ∃ (t_39 : TTotal), ∃ (o_39 : TTotal), ∃ (Kr : TTotal → Prop), args = [.agg (List.map RC.d (TTotal.enc t_39)), .agg (List.map RC.d (TTotal.enc o_39))] ∧ W39 t_39 o_39 Kr ∧ ∀ r, Kr r → K (.agg (List.map RC.d (TTotal.enc r))) []

theorem en39 : enters Try.prog 39 = true := by unfold enters; rw [Try.func39]; rfl
theorem cl39 (t_39 : TTotal) (o_39 : TTotal) {Kr : TTotal → Prop} (h : W39 t_39 o_39 Kr) : S39 [.agg (List.map RC.d (TTotal.enc t_39)), .agg (List.map RC.d (TTotal.enc o_39))] (fun rv rows => ∃ r, rv = (.agg (List.map RC.d (TTotal.enc r))) ∧ rows = [] ∧ Kr r) := ⟨t_39, o_39, Kr, rfl, h, fun r hr => ⟨r, rfl, rfl, hr⟩⟩

theorem ok39 : COK Try.prog 39 S39 := by
  refine cok39 fun args K0 hS => ?_
  obtain ⟨t_39, o_39, K, rfl, h, hK⟩ := hS
  refine ⟨by kernel_rfl, by simp, ?_⟩
  unfold W39 at h
  refine AW.sregL [(0, none), (1, none), (2, none)] (by kernel_rfl) ?_
  refine l_det (some 2) (.one (.ref 2 1 0 0), [(2, 1, .row true 37 4 [[.d (.int .i64 t_39.spans), .d (.int .i64 t_39.errors), .d (.int .i64 t_39.duration), .d (.int .i64 t_39.traces)]])]) (by kernel_rfl) ?_
  refine l_det (some 3) (.one (.ref 3 1 0 0), [(3, 1, .row true 37 4 [[.d (.int .i64 o_39.spans), .d (.int .i64 o_39.errors), .d (.int .i64 o_39.duration), .d (.int .i64 o_39.traces)]])]) (by kernel_rfl) ?_
  refine l_det (some 4) (.one (.ref 4 1 0 0), [(4, 1, .row true 37 4 [[.d (.int .i64 0), .d (.int .i64 0), .d (.int .i64 0), .d (.int .i64 0)]])]) (by kernel_rfl) ?_
  refine l_nil ?_
  refine AW.sregL [(0, none), (1, none), (2, none), (3, none), (4, none), (5, none), (6, none), (7, none), (8, none), (9, none), (10, none), (11, none), (12, none), (13, none), (14, none), (15, none), (16, none), (17, none), (18, none), (19, none), (20, none), (21, none)] (by kernel_rfl) ?_
  refine l_det (some 5) (.one (.ref 2 1 0 0), []) (by kernel_rfl) ?_
  refine l_det (some 6) (.one (.d (.int .i64 t_39.spans)), []) (by kernel_rfl) ?_
  refine l_det (some 7) (.one (.ref 3 1 0 0), []) (by kernel_rfl) ?_
  refine l_det (some 8) (.one (.d (.int .i64 o_39.spans)), []) (by kernel_rfl) ?_
  refine l_det (some 9) (.one (.d (.int .i64 (w64 (t_39.spans + o_39.spans)))), []) (by kernel_rfl) ?_
  refine l_det (some 10) (.one (.ref 2 1 0 1), []) (by kernel_rfl) ?_
  refine l_det (some 11) (.one (.d (.int .i64 t_39.errors)), []) (by kernel_rfl) ?_
  refine l_det (some 12) (.one (.ref 3 1 0 1), []) (by kernel_rfl) ?_
  refine l_det (some 13) (.one (.d (.int .i64 o_39.errors)), []) (by kernel_rfl) ?_
  refine l_det (some 14) (.one (.d (.int .i64 (w64 (t_39.errors + o_39.errors)))), []) (by kernel_rfl) ?_
  refine l_det (some 15) (.one (.ref 2 1 0 2), []) (by kernel_rfl) ?_
  refine l_det (some 16) (.one (.d (.int .i64 t_39.duration)), []) (by kernel_rfl) ?_
  refine l_det (some 17) (.one (.ref 3 1 0 2), []) (by kernel_rfl) ?_
  refine l_det (some 18) (.one (.d (.int .i64 o_39.duration)), []) (by kernel_rfl) ?_
  refine l_det (some 19) (.one (.d (.int .i64 (w64 (t_39.duration + o_39.duration)))), []) (by kernel_rfl) ?_
  refine l_det (some 20) (.one (.ref 2 1 0 3), []) (by kernel_rfl) ?_
  refine l_det (some 21) (.one (.d (.int .i64 t_39.traces)), []) (by kernel_rfl) ?_
  refine l_det (some 22) (.one (.ref 3 1 0 3), []) (by kernel_rfl) ?_
  refine l_det (some 23) (.one (.d (.int .i64 o_39.traces)), []) (by kernel_rfl) ?_
  refine l_det (some 24) (.one (.d (.int .i64 (w64 (t_39.traces + o_39.traces)))), []) (by kernel_rfl) ?_
  refine l_det (some 25) (.agg [.d (.int .i64 (w64 (t_39.spans + o_39.spans))), .d (.int .i64 (w64 (t_39.errors + o_39.errors))), .d (.int .i64 (w64 (t_39.duration + o_39.duration))), .d (.int .i64 (w64 (t_39.traces + o_39.traces)))], []) (by kernel_rfl) ?_
  refine l_det none (.tup [], [(4, 1, .row true 37 4 [[.d (.int .i64 (w64 (t_39.spans + o_39.spans))), .d (.int .i64 (w64 (t_39.errors + o_39.errors))), .d (.int .i64 (w64 (t_39.duration + o_39.duration))), .d (.int .i64 (w64 (t_39.traces + o_39.traces)))]])]) (by kernel_rfl) ?_
  refine l_nil ?_
  refine AW.ret ?_
  exact q_end [.agg [.d (.int .i64 (w64 (t_39.spans + o_39.spans))), .d (.int .i64 (w64 (t_39.errors + o_39.errors))), .d (.int .i64 (w64 (t_39.duration + o_39.duration))), .d (.int .i64 (w64 (t_39.traces + o_39.traces)))]] [false] [.agg (List.map RC.d [.int .i64 (w64 (t_39.spans + o_39.spans)), .int .i64 (w64 (t_39.errors + o_39.errors)), .int .i64 (w64 (t_39.duration + o_39.duration)), .int .i64 (w64 (t_39.traces + o_39.traces))])] [] [] (by kernel_rfl) ⟨by kernel_rfl, by kernel_rfl⟩ (by kernel_rfl) (by kernel_rfl) (by kernel_rfl) (by kernel_rfl) (Eq.mp (by kernel_rfl) (hK (TTotal.mk (w64 (t_39.spans + o_39.spans)) (w64 (t_39.errors + o_39.errors)) (w64 (t_39.duration + o_39.duration)) (w64 (t_39.traces + o_39.traces))) h)) (.inr rfl)
def r87_0 : List AR := [⟨some 2, .mov (.c (.int .i64 0)), [], none⟩]
def r87_1 : List AR := [⟨some 3, .mov (.t 0), [], none⟩,
  ⟨some 4, .bin .geq (.t 3) (.c (.int .u64 4294967296)), [0], none⟩]
def r87_2 : List AR := [⟨some 5, .mov (.t 0), [], none⟩,
  ⟨some 6, .bin .shr (.t 5) (.c (.int .u64 32)), [0], none⟩,
  ⟨some 0, .mov (.t 6), [1, 0, 1], none⟩]
def r87_3 : List AR := [⟨some 2, .mov (.c (.int .i64 32)), [], none⟩]
def r87_4 : List AR := [⟨some 7, .mov (.t 0), [], none⟩,
  ⟨some 8, .bin .geq (.t 7) (.c (.int .u64 65536)), [0], none⟩]
def r87_5 : List AR := [⟨some 9, .mov (.t 0), [], none⟩,
  ⟨some 10, .bin .shr (.t 9) (.c (.int .u64 16)), [0], none⟩,
  ⟨some 0, .mov (.t 10), [1, 0, 1], none⟩]
def r87_6 : List AR := [⟨some 11, .mov (.t 2), [], none⟩,
  ⟨some 12, .bin .add (.t 11) (.c (.int .i64 16)), [0], none⟩,
  ⟨some 2, .mov (.t 12), [1, 0, 1], none⟩]
def r87_7 : List AR := [⟨some 13, .mov (.t 0), [], none⟩,
  ⟨some 14, .bin .geq (.t 13) (.c (.int .u64 256)), [0], none⟩]
def r87_8 : List AR := [⟨some 15, .mov (.t 0), [], none⟩,
  ⟨some 16, .bin .shr (.t 15) (.c (.int .u64 8)), [0], none⟩,
  ⟨some 0, .mov (.t 16), [1, 0, 1], none⟩]
def r87_9 : List AR := [⟨some 17, .mov (.t 2), [], none⟩,
  ⟨some 18, .bin .add (.t 17) (.c (.int .i64 8)), [0], none⟩,
  ⟨some 2, .mov (.t 18), [1, 0, 1], none⟩]
def r87_10 : List AR := [⟨some 19, .mov (.t 2), [], none⟩,
  ⟨some 20, .mov (.t 0), [], none⟩,
  ⟨some 21, .cvi .u8 (.t 20), [1], none⟩,
  ⟨some 22, .ixs (.c (.str ⟨#[0, 1, 2, 2, 3, 3, 3, 3, 4, 4, 4, 4, 4, 4, 4, 4, 5, 5, 5, 5, 5, 5, 5, 5, 5, 5, 5, 5, 5, 5, 5, 5, 6, 6, 6, 6, 6, 6, 6, 6, 6, 6, 6, 6, 6, 6, 6, 6, 6, 6, 6, 6, 6, 6, 6, 6, 6, 6, 6, 6, 6, 6, 6, 6, 7, 7, 7, 7, 7, 7, 7, 7, 7, 7, 7, 7, 7, 7, 7, 7, 7, 7, 7, 7, 7, 7, 7, 7, 7, 7, 7, 7, 7, 7, 7, 7, 7, 7, 7, 7, 7, 7, 7, 7, 7, 7, 7, 7, 7, 7, 7, 7, 7, 7, 7, 7, 7, 7, 7, 7, 7, 7, 7, 7, 7, 7, 7, 7, 8, 8, 8, 8, 8, 8, 8, 8, 8, 8, 8, 8, 8, 8, 8, 8, 8, 8, 8, 8, 8, 8, 8, 8, 8, 8, 8, 8, 8, 8, 8, 8, 8, 8, 8, 8, 8, 8, 8, 8, 8, 8, 8, 8, 8, 8, 8, 8, 8, 8, 8, 8, 8, 8, 8, 8, 8, 8, 8, 8, 8, 8, 8, 8, 8, 8, 8, 8, 8, 8, 8, 8, 8, 8, 8, 8, 8, 8, 8, 8, 8, 8, 8, 8, 8, 8, 8, 8, 8, 8, 8, 8, 8, 8, 8, 8, 8, 8, 8, 8, 8, 8, 8, 8, 8, 8, 8, 8, 8, 8, 8, 8, 8, 8, 8, 8, 8, 8, 8, 8, 8, 8, 8, 8, 8, 8, 8, 8]⟩)) (.t 21), [2], none⟩,
  ⟨some 23, .cvi .i64 (.t 22), [3], none⟩,
  ⟨some 24, .bin .add (.t 19) (.t 23), [0, 4], none⟩,
  ⟨some 2, .mov (.t 24), [5, 0, 1, 2, 3, 4, 5], none⟩]
def c87 : ACode := .seq (.reg r87_0 false) (.seq (.seq (.reg r87_1 false) (.cond (.t 4) (.seq (.reg r87_2 false) (.reg r87_3 false)) (.skip))) (.seq (.seq (.reg r87_4 false) (.cond (.t 8) (.seq (.reg r87_5 false) (.reg r87_6 false)) (.skip))) (.seq (.seq (.reg r87_7 false) (.cond (.t 14) (.seq (.reg r87_8 false) (.reg r87_9 false)) (.skip))) (.seq (.reg r87_10 false) (.ret)))))
theorem body87 : Try.f87.body.map (comp Try.prog 25) = some c87 := by kernel_rfl
theorem res87 : allSome (Try.f87.results.toList.map (compRes Try.prog)) = some [.s 2] := by kernel_rfl
theorem cok87 {S : FSpec} (h : ∀ args K, S args K → args.all argOk = true ∧ args.length ≤ 25 ∧ AW Try.prog 25 (some ownP) c87 (initS args) (retPost [.s 2] args K)) : COK Try.prog 87 S := of_body Try.func87 Try.ntmps87 body87 res87 h

def J87_3 (K : Int → Prop) (v3286 : Int) (v3287 : Int) : Prop :=
  Chr (⟨#[0, 1, 2, 2, 3, 3, 3, 3, 4, 4, 4, 4, 4, 4, 4, 4, 5, 5, 5, 5, 5, 5, 5, 5, 5, 5, 5, 5, 5, 5, 5, 5, 6, 6, 6, 6, 6, 6, 6, 6, 6, 6, 6, 6, 6, 6, 6, 6, 6, 6, 6, 6, 6, 6, 6, 6, 6, 6, 6, 6, 6, 6, 6, 6, 7, 7, 7, 7, 7, 7, 7, 7, 7, 7, 7, 7, 7, 7, 7, 7, 7, 7, 7, 7, 7, 7, 7, 7, 7, 7, 7, 7, 7, 7, 7, 7, 7, 7, 7, 7, 7, 7, 7, 7, 7, 7, 7, 7, 7, 7, 7, 7, 7, 7, 7, 7, 7, 7, 7, 7, 7, 7, 7, 7, 7, 7, 7, 7, 8, 8, 8, 8, 8, 8, 8, 8, 8, 8, 8, 8, 8, 8, 8, 8, 8, 8, 8, 8, 8, 8, 8, 8, 8, 8, 8, 8, 8, 8, 8, 8, 8, 8, 8, 8, 8, 8, 8, 8, 8, 8, 8, 8, 8, 8, 8, 8, 8, 8, 8, 8, 8, 8, 8, 8, 8, 8, 8, 8, 8, 8, 8, 8, 8, 8, 8, 8, 8, 8, 8, 8, 8, 8, 8, 8, 8, 8, 8, 8, 8, 8, 8, 8, 8, 8, 8, 8, 8, 8, 8, 8, 8, 8, 8, 8, 8, 8, 8, 8, 8, 8, 8, 8, 8, 8, 8, 8, 8, 8, 8, 8, 8, 8, 8, 8, 8, 8, 8, 8, 8, 8, 8, 8, 8, 8, 8, 8]⟩ : ByteArray) (IntKind.wrap .u8 v3286) fun b3289 => K (w64 (v3287 + (w64 (b3289.toNat : Int))))

def J87_2 (K : Int → Prop) (v3284 : Int) (v3285 : Int) : Prop :=
  Cond (decide (v3284 ≥ 256)) (J87_3 K (Int.fdiv v3284 (2 ^ 8)) (w64 (v3285 + 8))) (J87_3 K v3284 v3285)

def J87_1 (K : Int → Prop) (v3282 : Int) (v3283 : Int) : Prop :=
  Cond (decide (v3282 ≥ 65536)) (J87_2 K (Int.fdiv v3282 (2 ^ 16)) (w64 (v3283 + 16))) (J87_2 K v3282 v3283)

/-- math/bits.Len64 -/
def W87 (x_0_87 : Int) (K : Int → Prop) : Prop :=
  Cond (decide (x_0_87 ≥ 4294967296)) (J87_1 K (Int.fdiv x_0_87 (2 ^ 32)) 32) (J87_1 K x_0_87 0)

def S87 : FSpec := fun args K => ∃ (x_0_87 : Int), ∃ (Kr : Int → Prop), args = [.one (.d (.int .u64 x_0_87))] ∧ W87 x_0_87 Kr ∧ ∀ r, Kr r → K (.one (.d (.int .i64 r))) []

theorem en87 : enters Try.prog 87 = true := by unfold enters; rw [Try.func87]; rfl
theorem cl87 (x_0_87 : Int) {Kr : Int → Prop} (h : W87 x_0_87 Kr) : S87 [.one (.d (.int .u64 x_0_87))] (fun rv rows => ∃ r, rv = (.one (.d (.int .i64 r))) ∧ rows = [] ∧ Kr r) := ⟨x_0_87, Kr, rfl, h, fun r hr => ⟨r, rfl, rfl, hr⟩⟩

theorem ok87 : COK Try.prog 87 S87 := by
  refine cok87 fun args K0 hS => ?_
  obtain ⟨x_0_87, K, rfl, h, hK⟩ := hS
  refine ⟨by kernel_rfl, by simp, ?_⟩
  unfold W87 at h
  refine AW.sregL [(0, none)] (by kernel_rfl) ?_
  refine l_det (some 2) (.one (.d (.int .i64 0)), []) (by kernel_rfl) ?_
  refine l_nil ?_
  refine AW.seqL (S := (Int × Int)) (fun s => (fun (v3282 : Int) (v3283 : Int) => [(0, .one (.d (.int .u64 v3282))), (2, .one (.d (.int .i64 v3283)))]) s.1 s.2) (fun s => (fun (v3282 : Int) (v3283 : Int) => []) s.1 s.2) (fun s : (Int × Int) => J87_1 K s.1 s.2) ?_ ?_
  · refine AW.sregL [(0, none), (1, none)] (by kernel_rfl) ?_
    refine l_det (some 3) (.one (.d (.int .u64 x_0_87)), []) (by kernel_rfl) ?_
    refine l_det (some 4) (.one (.d (.bool (decide (x_0_87 ≥ 4294967296)))), []) (by kernel_rfl) ?_
    refine l_nil ?_
    refine AW.cond' (by kernel_rfl) h (fun h => ?_) (fun h => ?_)
    · refine AW.sregL [(0, none), (1, none), (2, none)] (by kernel_rfl) ?_
      refine l_det (some 5) (.one (.d (.int .u64 x_0_87)), []) (by kernel_rfl) ?_
      refine l_det (some 6) (.one (.d (.int .u64 (Int.fdiv x_0_87 (2 ^ 32)))), []) (by kernel_rfl) ?_
      refine l_det (some 0) (.one (.d (.int .u64 (Int.fdiv x_0_87 (2 ^ 32)))), []) (by kernel_rfl) ?_
      refine l_nil ?_
      refine AW.regL [(0, none)] (by kernel_rfl) ?_
      refine l_det (some 2) (.one (.d (.int .i64 32)), []) (by kernel_rfl) ?_
      refine l_nil ?_
      refine q_fall ?_
      exact Lab.mk ((Int.fdiv x_0_87 (2 ^ 32)), 32) [] (by kernel_rfl) (by kernel_rfl) (by kernel_rfl) (by kernel_rfl) h
    · refine AW.skip ?_
      refine q_fall ?_
      exact Lab.mk (x_0_87, 0) [] (by kernel_rfl) (by kernel_rfl) (by kernel_rfl) (by kernel_rfl) h
  · rintro ⟨v3282, v3283⟩ h
    have h : J87_1 K v3282 v3283 := h
    unfold J87_1 at h
    refine AW.seqL (S := (Int × Int)) (fun s => (fun (v3284 : Int) (v3285 : Int) => [(0, .one (.d (.int .u64 v3284))), (2, .one (.d (.int .i64 v3285)))]) s.1 s.2) (fun s => (fun (v3284 : Int) (v3285 : Int) => []) s.1 s.2) (fun s : (Int × Int) => J87_2 K s.1 s.2) ?_ ?_
    · refine AW.sregL [(0, none), (1, none)] (by kernel_rfl) ?_
      refine l_det (some 7) (.one (.d (.int .u64 v3282)), []) (by kernel_rfl) ?_
      refine l_det (some 8) (.one (.d (.bool (decide (v3282 ≥ 65536)))), []) (by kernel_rfl) ?_
      refine l_nil ?_
      refine AW.cond' (by kernel_rfl) h (fun h => ?_) (fun h => ?_)
      · refine AW.sregL [(0, none), (1, none), (2, none)] (by kernel_rfl) ?_
        refine l_det (some 9) (.one (.d (.int .u64 v3282)), []) (by kernel_rfl) ?_
        refine l_det (some 10) (.one (.d (.int .u64 (Int.fdiv v3282 (2 ^ 16)))), []) (by kernel_rfl) ?_
        refine l_det (some 0) (.one (.d (.int .u64 (Int.fdiv v3282 (2 ^ 16)))), []) (by kernel_rfl) ?_
        refine l_nil ?_
        refine AW.regL [(0, none), (1, none), (2, none)] (by kernel_rfl) ?_
        refine l_det (some 11) (.one (.d (.int .i64 v3283)), []) (by kernel_rfl) ?_
        refine l_det (some 12) (.one (.d (.int .i64 (w64 (v3283 + 16)))), []) (by kernel_rfl) ?_
        refine l_det (some 2) (.one (.d (.int .i64 (w64 (v3283 + 16)))), []) (by kernel_rfl) ?_
        refine l_nil ?_
        refine q_fall ?_
        exact Lab.mk ((Int.fdiv v3282 (2 ^ 16)), (w64 (v3283 + 16))) [] (by kernel_rfl) (by kernel_rfl) (by kernel_rfl) (by kernel_rfl) h
      · refine AW.skip ?_
        refine q_fall ?_
        exact Lab.mk (v3282, v3283) [] (by kernel_rfl) (by kernel_rfl) (by kernel_rfl) (by kernel_rfl) h
    · rintro ⟨v3284, v3285⟩ h
      have h : J87_2 K v3284 v3285 := h
      unfold J87_2 at h
      refine AW.seqL (S := (Int × Int)) (fun s => (fun (v3286 : Int) (v3287 : Int) => [(0, .one (.d (.int .u64 v3286))), (2, .one (.d (.int .i64 v3287)))]) s.1 s.2) (fun s => (fun (v3286 : Int) (v3287 : Int) => []) s.1 s.2) (fun s : (Int × Int) => J87_3 K s.1 s.2) ?_ ?_
      · refine AW.sregL [(0, none), (1, none)] (by kernel_rfl) ?_
        refine l_det (some 13) (.one (.d (.int .u64 v3284)), []) (by kernel_rfl) ?_
        refine l_det (some 14) (.one (.d (.bool (decide (v3284 ≥ 256)))), []) (by kernel_rfl) ?_
        refine l_nil ?_
        refine AW.cond' (by kernel_rfl) h (fun h => ?_) (fun h => ?_)
        · refine AW.sregL [(0, none), (1, none), (2, none)] (by kernel_rfl) ?_
          refine l_det (some 15) (.one (.d (.int .u64 v3284)), []) (by kernel_rfl) ?_
          refine l_det (some 16) (.one (.d (.int .u64 (Int.fdiv v3284 (2 ^ 8)))), []) (by kernel_rfl) ?_
          refine l_det (some 0) (.one (.d (.int .u64 (Int.fdiv v3284 (2 ^ 8)))), []) (by kernel_rfl) ?_
          refine l_nil ?_
          refine AW.regL [(0, none), (1, none), (2, none)] (by kernel_rfl) ?_
          refine l_det (some 17) (.one (.d (.int .i64 v3285)), []) (by kernel_rfl) ?_
          refine l_det (some 18) (.one (.d (.int .i64 (w64 (v3285 + 8)))), []) (by kernel_rfl) ?_
          refine l_det (some 2) (.one (.d (.int .i64 (w64 (v3285 + 8)))), []) (by kernel_rfl) ?_
          refine l_nil ?_
          refine q_fall ?_
          exact Lab.mk ((Int.fdiv v3284 (2 ^ 8)), (w64 (v3285 + 8))) [] (by kernel_rfl) (by kernel_rfl) (by kernel_rfl) (by kernel_rfl) h
        · refine AW.skip ?_
          refine q_fall ?_
          exact Lab.mk (v3284, v3285) [] (by kernel_rfl) (by kernel_rfl) (by kernel_rfl) (by kernel_rfl) h
      · rintro ⟨v3286, v3287⟩ h
        have h : J87_3 K v3286 v3287 := h
        unfold J87_3 at h
        refine AW.sregL [(0, none), (1, none), (2, none), (3, none), (4, none), (5, none), (6, none)] (by kernel_rfl) ?_
        refine l_det (some 19) (.one (.d (.int .i64 v3287)), []) (by kernel_rfl) ?_
        refine l_det (some 20) (.one (.d (.int .u64 v3286)), []) (by kernel_rfl) ?_
        refine l_det (some 21) (.one (.d (.int .u8 (IntKind.wrap .u8 v3286))), []) (by kernel_rfl) ?_
        obtain ⟨h3, b3289, h4, h⟩ := h
        refine l_spec (some 22) (.ixs (.c (.str ⟨#[0, 1, 2, 2, 3, 3, 3, 3, 4, 4, 4, 4, 4, 4, 4, 4, 5, 5, 5, 5, 5, 5, 5, 5, 5, 5, 5, 5, 5, 5, 5, 5, 6, 6, 6, 6, 6, 6, 6, 6, 6, 6, 6, 6, 6, 6, 6, 6, 6, 6, 6, 6, 6, 6, 6, 6, 6, 6, 6, 6, 6, 6, 6, 6, 7, 7, 7, 7, 7, 7, 7, 7, 7, 7, 7, 7, 7, 7, 7, 7, 7, 7, 7, 7, 7, 7, 7, 7, 7, 7, 7, 7, 7, 7, 7, 7, 7, 7, 7, 7, 7, 7, 7, 7, 7, 7, 7, 7, 7, 7, 7, 7, 7, 7, 7, 7, 7, 7, 7, 7, 7, 7, 7, 7, 7, 7, 7, 7, 8, 8, 8, 8, 8, 8, 8, 8, 8, 8, 8, 8, 8, 8, 8, 8, 8, 8, 8, 8, 8, 8, 8, 8, 8, 8, 8, 8, 8, 8, 8, 8, 8, 8, 8, 8, 8, 8, 8, 8, 8, 8, 8, 8, 8, 8, 8, 8, 8, 8, 8, 8, 8, 8, 8, 8, 8, 8, 8, 8, 8, 8, 8, 8, 8, 8, 8, 8, 8, 8, 8, 8, 8, 8, 8, 8, 8, 8, 8, 8, 8, 8, 8, 8, 8, 8, 8, 8, 8, 8, 8, 8, 8, 8, 8, 8, 8, 8, 8, 8, 8, 8, 8, 8, 8, 8, 8, 8, 8, 8, 8, 8, 8, 8, 8, 8, 8, 8, 8, 8, 8, 8, 8, 8, 8, 8, 8, 8]⟩)) (.t 21)) (.one (.d (.int .u8 (b3289.toNat : Int))), []) (by kernel_rfl) (detA_none (d_ixs (k := .u8) (⟨#[0, 1, 2, 2, 3, 3, 3, 3, 4, 4, 4, 4, 4, 4, 4, 4, 5, 5, 5, 5, 5, 5, 5, 5, 5, 5, 5, 5, 5, 5, 5, 5, 6, 6, 6, 6, 6, 6, 6, 6, 6, 6, 6, 6, 6, 6, 6, 6, 6, 6, 6, 6, 6, 6, 6, 6, 6, 6, 6, 6, 6, 6, 6, 6, 7, 7, 7, 7, 7, 7, 7, 7, 7, 7, 7, 7, 7, 7, 7, 7, 7, 7, 7, 7, 7, 7, 7, 7, 7, 7, 7, 7, 7, 7, 7, 7, 7, 7, 7, 7, 7, 7, 7, 7, 7, 7, 7, 7, 7, 7, 7, 7, 7, 7, 7, 7, 7, 7, 7, 7, 7, 7, 7, 7, 7, 7, 7, 7, 8, 8, 8, 8, 8, 8, 8, 8, 8, 8, 8, 8, 8, 8, 8, 8, 8, 8, 8, 8, 8, 8, 8, 8, 8, 8, 8, 8, 8, 8, 8, 8, 8, 8, 8, 8, 8, 8, 8, 8, 8, 8, 8, 8, 8, 8, 8, 8, 8, 8, 8, 8, 8, 8, 8, 8, 8, 8, 8, 8, 8, 8, 8, 8, 8, 8, 8, 8, 8, 8, 8, 8, 8, 8, 8, 8, 8, 8, 8, 8, 8, 8, 8, 8, 8, 8, 8, 8, 8, 8, 8, 8, 8, 8, 8, 8, 8, 8, 8, 8, 8, 8, 8, 8, 8, 8, 8, 8, 8, 8, 8, 8, 8, 8, 8, 8, 8, 8, 8, 8, 8, 8, 8, 8, 8, 8, 8, 8]⟩ : ByteArray) b3289 (by kernel_rfl) (by kernel_rfl) h3 h4)) ?_
        refine l_det (some 23) (.one (.d (.int .i64 (w64 (b3289.toNat : Int)))), []) (by kernel_rfl) ?_
        refine l_det (some 24) (.one (.d (.int .i64 (w64 (v3287 + (w64 (b3289.toNat : Int)))))), []) (by kernel_rfl) ?_
        refine l_det (some 2) (.one (.d (.int .i64 (w64 (v3287 + (w64 (b3289.toNat : Int)))))), []) (by kernel_rfl) ?_
        refine l_nil ?_
        refine AW.ret ?_
        exact q_end [.one (.d (.int .i64 (w64 (v3287 + (w64 (b3289.toNat : Int))))))] [false] [.one (.d (.int .i64 (w64 (v3287 + (w64 (b3289.toNat : Int))))))] [] [] (by kernel_rfl) ⟨by kernel_rfl, by kernel_rfl⟩ (by kernel_rfl) (by kernel_rfl) (by kernel_rfl) (by kernel_rfl) (Eq.mp (by kernel_rfl) (hK (w64 (v3287 + (w64 (b3289.toNat : Int)))) h)) (.inr rfl)
def r74_0 : List AR := [⟨some 2, .mov (.c (.int .i64 0)), [], none⟩]
def r74_1 : List AR := [⟨some 3, .mov (.t 0), [], none⟩,
  ⟨some 4, .cvi .u32 (.t 3), [0], none⟩,
  ⟨some 5, .call 86 [.t 4], [1], none⟩,
  ⟨some 2, .mov (.t 5), [2, 2, 0, 1, 2], none⟩]
def r74_2 : List AR := [⟨some 6, .mov (.t 0), [], none⟩,
  ⟨some 7, .call 87 [.t 6], [0], none⟩,
  ⟨some 2, .mov (.t 7), [1, 1, 0, 1], none⟩]
def c74 : ACode := .seq (.reg r74_0 false) (.seq (.cond (.c (.bool false)) (.seq (.reg r74_1 false) (.ret)) (.skip)) (.seq (.reg r74_2 false) (.ret)))
theorem body74 : Try.f74.body.map (comp Try.prog 8) = some c74 := by kernel_rfl
theorem res74 : allSome (Try.f74.results.toList.map (compRes Try.prog)) = some [.s 2] := by kernel_rfl
theorem cok74 {S : FSpec} (h : ∀ args K, S args K → args.all argOk = true ∧ args.length ≤ 8 ∧ AW Try.prog 8 (some ownP) c74 (initS args) (retPost [.s 2] args K)) : COK Try.prog 74 S := of_body Try.func74 Try.ntmps74 body74 res74 h

/-- math/bits.Len -/
def W74 (x_0_74 : Int) (K : Int → Prop) : Prop :=
  W87 x_0_74 fun r3291 => K r3291

def S74 : FSpec := fun args K => ∃ (x_0_74 : Int), ∃ (Kr : Int → Prop), args = [.one (.d (.int .u64 x_0_74))] ∧ W74 x_0_74 Kr ∧ ∀ r, Kr r → K (.one (.d (.int .i64 r))) []

theorem en74 : enters Try.prog 74 = true := by unfold enters; rw [Try.func74]; rfl
theorem cl74 (x_0_74 : Int) {Kr : Int → Prop} (h : W74 x_0_74 Kr) : S74 [.one (.d (.int .u64 x_0_74))] (fun rv rows => ∃ r, rv = (.one (.d (.int .i64 r))) ∧ rows = [] ∧ Kr r) := ⟨x_0_74, Kr, rfl, h, fun r hr => ⟨r, rfl, rfl, hr⟩⟩

theorem ok74 : COK Try.prog 74 S74 := by
  refine cok74 fun args K0 hS => ?_
  obtain ⟨x_0_74, K, rfl, h, hK⟩ := hS
  refine ⟨by kernel_rfl, by simp, ?_⟩
  unfold W74 at h
  refine AW.sregL [(0, none)] (by kernel_rfl) ?_
  refine l_det (some 2) (.one (.d (.int .i64 0)), []) (by kernel_rfl) ?_
  refine l_nil ?_
  refine AW.seq ?_
  refine AW.condF (by kernel_rfl) ?_
  refine AW.skip ?_
  refine q_fall ?_
  refine AW.sregL [(0, none), (1, none), (2, none)] (by kernel_rfl) ?_
  refine l_det (some 6) (.one (.d (.int .u64 x_0_74)), []) (by kernel_rfl) ?_
  refine l_call ok87 en87 (some 7) [.one (.d (.int .u64 x_0_74))] [false] [.one (.d (.int .u64 x_0_74))] [] (by kernel_rfl) ⟨by kernel_rfl, by kernel_rfl⟩ (by kernel_rfl) (by kernel_rfl) (by kernel_rfl) (cl87 x_0_74 h) ?_
  rintro hR _ _ ⟨r3291, rfl, rfl, h⟩
  refine ⟨false, (.one (.d (.int .i64 r3291)), []), (fun hz => (by cases hz)), (ret_R hR (by kernel_rfl)), ?_⟩
  refine l_det (some 2) (.one (.d (.int .i64 r3291)), []) (by kernel_rfl) ?_
  refine l_nil ?_
  refine AW.ret ?_
  exact q_end [.one (.d (.int .i64 r3291))] [false] [.one (.d (.int .i64 r3291))] [] [] (by kernel_rfl) ⟨by kernel_rfl, by kernel_rfl⟩ (by kernel_rfl) (by kernel_rfl) (by kernel_rfl) (by kernel_rfl) (Eq.mp (by kernel_rfl) (hK r3291 h)) (.inr rfl)
def r97_0 : List AR := [⟨some 2, .mov (.c (.bool false)), [], none⟩]
def r97_1 : List AR := [⟨some 3, .mov (.t 0), [], none⟩,
  ⟨some 4, .mov (.t 0), [], none⟩,
  ⟨some 5, .bin .neq (.t 3) (.t 4), [0, 1], none⟩,
  ⟨some 2, .mov (.t 5), [2, 0, 1, 2], none⟩]
def c97 : ACode := .seq (.reg r97_0 false) (.seq (.reg r97_1 false) (.ret))
theorem body97 : Try.f97.body.map (comp Try.prog 6) = some c97 := by kernel_rfl
theorem res97 : allSome (Try.f97.results.toList.map (compRes Try.prog)) = some [.s 2] := by kernel_rfl
theorem cok97 {S : FSpec} (h : ∀ args K, S args K → args.all argOk = true ∧ args.length ≤ 6 ∧ AW Try.prog 6 (some ownP) c97 (initS args) (retPost [.s 2] args K)) : COK Try.prog 97 S := of_body Try.func97 Try.ntmps97 body97 res97 h

/-- cmp.isNaN[string] -/
def W97 (x_0_97 : ByteArray) (K : Bool → Prop) : Prop :=
  K (decide (¬ x_0_97 = x_0_97))

def S97 : FSpec := fun args K => ∃ (x_0_97 : ByteArray), ∃ (Kr : Bool → Prop), args = [.one (.d (.str x_0_97))] ∧ W97 x_0_97 Kr ∧ ∀ r, Kr r → K (.one (.d (.bool r))) []

theorem en97 : enters Try.prog 97 = true := by unfold enters; rw [Try.func97]; rfl
theorem cl97 (x_0_97 : ByteArray) {Kr : Bool → Prop} (h : W97 x_0_97 Kr) : S97 [.one (.d (.str x_0_97))] (fun rv rows => ∃ r, rv = (.one (.d (.bool r))) ∧ rows = [] ∧ Kr r) := ⟨x_0_97, Kr, rfl, h, fun r hr => ⟨r, rfl, rfl, hr⟩⟩

theorem ok97 : COK Try.prog 97 S97 := by
  refine cok97 fun args K0 hS => ?_
  obtain ⟨x_0_97, K, rfl, h, hK⟩ := hS
  refine ⟨by kernel_rfl, by simp, ?_⟩
  unfold W97 at h
  refine AW.sregL [(0, none)] (by kernel_rfl) ?_
  refine l_det (some 2) (.one (.d (.bool false)), []) (by kernel_rfl) ?_
  refine l_nil ?_
  refine AW.sregL [(0, none), (1, none), (2, none), (3, none)] (by kernel_rfl) ?_
  refine l_det (some 3) (.one (.d (.str x_0_97)), []) (by kernel_rfl) ?_
  refine l_det (some 4) (.one (.d (.str x_0_97)), []) (by kernel_rfl) ?_
  refine l_det (some 5) (.one (.d (.bool (decide (¬ x_0_97 = x_0_97)))), []) (by kernel_rfl) ?_
  refine l_det (some 2) (.one (.d (.bool (decide (¬ x_0_97 = x_0_97)))), []) (by kernel_rfl) ?_
  refine l_nil ?_
  refine AW.ret ?_
  exact q_end [.one (.d (.bool (decide (¬ x_0_97 = x_0_97))))] [false] [.one (.d (.bool (decide (¬ x_0_97 = x_0_97))))] [] [] (by kernel_rfl) ⟨by kernel_rfl, by kernel_rfl⟩ (by kernel_rfl) (by kernel_rfl) (by kernel_rfl) (by kernel_rfl) (Eq.mp (by kernel_rfl) (hK (decide (¬ x_0_97 = x_0_97)) h)) (.inr rfl)
def r82_0 : List AR := [⟨some 4, .mov (.c (.int .i64 0)), [], none⟩]
def r82_1 : List AR := [⟨some 7, .mov (.t 0), [], none⟩,
  ⟨some 8, .call 97 [.t 7], [0], none⟩,
  ⟨some 5, .mov (.t 8), [1, 1, 0, 1], none⟩]
def r82_2 : List AR := [⟨some 9, .mov (.t 1), [], none⟩,
  ⟨some 10, .call 97 [.t 9], [0], none⟩,
  ⟨some 6, .mov (.t 10), [1, 1, 0, 1], none⟩]
def r82_3 : List AR := [⟨some 11, .mov (.t 5), [], none⟩]
def r82_4 : List AR := [⟨some 12, .mov (.t 6), [], none⟩]
def r82_5 : List AR := [⟨some 4, .mov (.c (.int .i64 0)), [], none⟩]
def r82_6 : List AR := [⟨some 4, .mov (.c (.int .i64 (-1))), [], none⟩]
def r82_7 : List AR := [⟨some 13, .mov (.t 6), [], none⟩]
def r82_8 : List AR := [⟨some 4, .mov (.c (.int .i64 1)), [], none⟩]
def r82_9 : List AR := [⟨some 14, .mov (.t 0), [], none⟩,
  ⟨some 15, .mov (.t 1), [], none⟩,
  ⟨some 16, .bin .lss (.t 14) (.t 15), [0, 1], none⟩]
def r82_10 : List AR := [⟨some 4, .mov (.c (.int .i64 (-1))), [], none⟩]
def r82_11 : List AR := [⟨some 17, .mov (.t 0), [], none⟩,
  ⟨some 18, .mov (.t 1), [], none⟩,
  ⟨some 19, .bin .gtr (.t 17) (.t 18), [0, 1], none⟩]
def r82_12 : List AR := [⟨some 4, .mov (.c (.int .i64 1)), [], none⟩]
def r82_13 : List AR := [⟨some 4, .mov (.c (.int .i64 0)), [], none⟩]
def c82 : ACode := .seq (.reg r82_0 false) (.seq (.reg r82_1 false) (.seq (.reg r82_2 false) (.seq (.seq (.reg r82_3 false) (.cond (.t 11) (.seq (.seq (.reg r82_4 false) (.cond (.t 12) (.seq (.reg r82_5 false) (.ret)) (.skip))) (.seq (.reg r82_6 false) (.ret))) (.skip))) (.seq (.seq (.reg r82_7 false) (.cond (.t 13) (.seq (.reg r82_8 false) (.ret)) (.skip))) (.seq (.seq (.reg r82_9 false) (.cond (.t 16) (.seq (.reg r82_10 false) (.ret)) (.skip))) (.seq (.seq (.reg r82_11 false) (.cond (.t 19) (.seq (.reg r82_12 false) (.ret)) (.skip))) (.seq (.reg r82_13 false) (.ret))))))))
theorem body82 : Try.f82.body.map (comp Try.prog 20) = some c82 := by kernel_rfl
theorem res82 : allSome (Try.f82.results.toList.map (compRes Try.prog)) = some [.s 4] := by kernel_rfl
theorem cok82 {S : FSpec} (h : ∀ args K, S args K → args.all argOk = true ∧ args.length ≤ 20 ∧ AW Try.prog 20 (some ownP) c82 (initS args) (retPost [.s 4] args K)) : COK Try.prog 82 S := of_body Try.func82 Try.ntmps82 body82 res82 h

/-- cmp.Compare[string] -/
def W82 (x_0_82 : ByteArray) (y_82 : ByteArray) (K : Int → Prop) : Prop :=
  W97 x_0_82 fun r3296 => W97 y_82 fun r3298 => Cond r3296 (Cond r3298 (K 0) (K (-1))) (Cond r3298 (K 1) (Cond (Op.bytesLess x_0_82.toList y_82.toList) (K (-1)) (Cond (!(Op.bytesLess x_0_82.toList y_82.toList || decide (x_0_82 = y_82))) (K 1) (K 0))))

def S82 : FSpec := fun args K => ∃ (x_0_82 : ByteArray), ∃ (y_82 : ByteArray), ∃ (Kr : Int → Prop), args = [.one (.d (.str x_0_82)), .one (.d (.str y_82))] ∧ W82 x_0_82 y_82 Kr ∧ ∀ r, Kr r → K (.one (.d (.int .i64 r))) []

theorem en82 : enters Try.prog 82 = true := by unfold enters; rw [Try.func82]; rfl
theorem cl82 (x_0_82 : ByteArray) (y_82 : ByteArray) {Kr : Int → Prop} (h : W82 x_0_82 y_82 Kr) : S82 [.one (.d (.str x_0_82)), .one (.d (.str y_82))] (fun rv rows => ∃ r, rv = (.one (.d (.int .i64 r))) ∧ rows = [] ∧ Kr r) := ⟨x_0_82, y_82, Kr, rfl, h, fun r hr => ⟨r, rfl, rfl, hr⟩⟩

theorem ok82 : COK Try.prog 82 S82 := by
  refine cok82 fun args K0 hS => ?_
  obtain ⟨x_0_82, y_82, K, rfl, h, hK⟩ := hS
  refine ⟨by kernel_rfl, by simp, ?_⟩
  unfold W82 at h
  refine AW.sregL [(0, none)] (by kernel_rfl) ?_
  refine l_det (some 4) (.one (.d (.int .i64 0)), []) (by kernel_rfl) ?_
  refine l_nil ?_
  refine AW.sregL [(0, none), (1, none), (2, none)] (by kernel_rfl) ?_
  refine l_det (some 7) (.one (.d (.str x_0_82)), []) (by kernel_rfl) ?_
  refine l_call ok97 en97 (some 8) [.one (.d (.str x_0_82))] [false] [.one (.d (.str x_0_82))] [] (by kernel_rfl) ⟨by kernel_rfl, by kernel_rfl⟩ (by kernel_rfl) (by kernel_rfl) (by kernel_rfl) (cl97 x_0_82 h) ?_
  rintro hR _ _ ⟨r3296, rfl, rfl, h⟩
  refine ⟨false, (.one (.d (.bool r3296)), []), (fun hz => (by cases hz)), (ret_R hR (by kernel_rfl)), ?_⟩
  refine l_det (some 5) (.one (.d (.bool r3296)), []) (by kernel_rfl) ?_
  refine l_nil ?_
  refine AW.sregL [(0, none), (1, none), (2, none)] (by kernel_rfl) ?_
  refine l_det (some 9) (.one (.d (.str y_82)), []) (by kernel_rfl) ?_
  refine l_call ok97 en97 (some 10) [.one (.d (.str y_82))] [false] [.one (.d (.str y_82))] [] (by kernel_rfl) ⟨by kernel_rfl, by kernel_rfl⟩ (by kernel_rfl) (by kernel_rfl) (by kernel_rfl) (cl97 y_82 h) ?_
  rintro hR _ _ ⟨r3298, rfl, rfl, h⟩
  refine ⟨false, (.one (.d (.bool r3298)), []), (fun hz => (by cases hz)), (ret_R hR (by kernel_rfl)), ?_⟩
  refine l_det (some 6) (.one (.d (.bool r3298)), []) (by kernel_rfl) ?_
  refine l_nil ?_
  refine AW.seq ?_
  refine AW.sregL [(0, none)] (by kernel_rfl) ?_
  refine l_det (some 11) (.one (.d (.bool r3296)), []) (by kernel_rfl) ?_
  refine l_nil ?_
  refine AW.cond' (by kernel_rfl) h (fun h => ?_) (fun h => ?_)
  · refine AW.seq ?_
    refine AW.sregL [(0, none)] (by kernel_rfl) ?_
    refine l_det (some 12) (.one (.d (.bool r3298)), []) (by kernel_rfl) ?_
    refine l_nil ?_
    refine AW.cond' (by kernel_rfl) h (fun h => ?_) (fun h => ?_)
    · refine AW.sregL [(0, none)] (by kernel_rfl) ?_
      refine l_det (some 4) (.one (.d (.int .i64 0)), []) (by kernel_rfl) ?_
      refine l_nil ?_
      refine AW.ret ?_
      refine q_ret ?_
      refine q_ret ?_
      exact q_end [.one (.d (.int .i64 0))] [false] [.one (.d (.int .i64 0))] [] [] (by kernel_rfl) ⟨by kernel_rfl, by kernel_rfl⟩ (by kernel_rfl) (by kernel_rfl) (by kernel_rfl) (by kernel_rfl) (Eq.mp (by kernel_rfl) (hK 0 h)) (.inr rfl)
    · refine AW.skip ?_
      refine q_fall ?_
      refine AW.sregL [(0, none)] (by kernel_rfl) ?_
      refine l_det (some 4) (.one (.d (.int .i64 (-1))), []) (by kernel_rfl) ?_
      refine l_nil ?_
      refine AW.ret ?_
      refine q_ret ?_
      exact q_end [.one (.d (.int .i64 (-1)))] [false] [.one (.d (.int .i64 (-1)))] [] [] (by kernel_rfl) ⟨by kernel_rfl, by kernel_rfl⟩ (by kernel_rfl) (by kernel_rfl) (by kernel_rfl) (by kernel_rfl) (Eq.mp (by kernel_rfl) (hK (-1) h)) (.inr rfl)
  · refine AW.skip ?_
    refine q_fall ?_
    refine AW.seq ?_
    refine AW.sregL [(0, none)] (by kernel_rfl) ?_
    refine l_det (some 13) (.one (.d (.bool r3298)), []) (by kernel_rfl) ?_
    refine l_nil ?_
    refine AW.cond' (by kernel_rfl) h (fun h => ?_) (fun h => ?_)
    · refine AW.sregL [(0, none)] (by kernel_rfl) ?_
      refine l_det (some 4) (.one (.d (.int .i64 1)), []) (by kernel_rfl) ?_
      refine l_nil ?_
      refine AW.ret ?_
      refine q_ret ?_
      exact q_end [.one (.d (.int .i64 1))] [false] [.one (.d (.int .i64 1))] [] [] (by kernel_rfl) ⟨by kernel_rfl, by kernel_rfl⟩ (by kernel_rfl) (by kernel_rfl) (by kernel_rfl) (by kernel_rfl) (Eq.mp (by kernel_rfl) (hK 1 h)) (.inr rfl)
    · refine AW.skip ?_
      refine q_fall ?_
      refine AW.seq ?_
      refine AW.sregL [(0, none), (1, none), (2, none)] (by kernel_rfl) ?_
      refine l_det (some 14) (.one (.d (.str x_0_82)), []) (by kernel_rfl) ?_
      refine l_det (some 15) (.one (.d (.str y_82)), []) (by kernel_rfl) ?_
      refine l_det (some 16) (.one (.d (.bool (Op.bytesLess x_0_82.toList y_82.toList))), []) (by kernel_rfl) ?_
      refine l_nil ?_
      refine AW.cond' (by kernel_rfl) h (fun h => ?_) (fun h => ?_)
      · refine AW.sregL [(0, none)] (by kernel_rfl) ?_
        refine l_det (some 4) (.one (.d (.int .i64 (-1))), []) (by kernel_rfl) ?_
        refine l_nil ?_
        refine AW.ret ?_
        refine q_ret ?_
        exact q_end [.one (.d (.int .i64 (-1)))] [false] [.one (.d (.int .i64 (-1)))] [] [] (by kernel_rfl) ⟨by kernel_rfl, by kernel_rfl⟩ (by kernel_rfl) (by kernel_rfl) (by kernel_rfl) (by kernel_rfl) (Eq.mp (by kernel_rfl) (hK (-1) h)) (.inr rfl)
      · refine AW.skip ?_
        refine q_fall ?_
        refine AW.seq ?_
        refine AW.sregL [(0, none), (1, none), (2, none)] (by kernel_rfl) ?_
        refine l_det (some 17) (.one (.d (.str x_0_82)), []) (by kernel_rfl) ?_
        refine l_det (some 18) (.one (.d (.str y_82)), []) (by kernel_rfl) ?_
        refine l_det (some 19) (.one (.d (.bool (!(Op.bytesLess x_0_82.toList y_82.toList || decide (x_0_82 = y_82))))), []) (by kernel_rfl) ?_
        refine l_nil ?_
        refine AW.cond' (by kernel_rfl) h (fun h => ?_) (fun h => ?_)
        · refine AW.sregL [(0, none)] (by kernel_rfl) ?_
          refine l_det (some 4) (.one (.d (.int .i64 1)), []) (by kernel_rfl) ?_
          refine l_nil ?_
          refine AW.ret ?_
          refine q_ret ?_
          exact q_end [.one (.d (.int .i64 1))] [false] [.one (.d (.int .i64 1))] [] [] (by kernel_rfl) ⟨by kernel_rfl, by kernel_rfl⟩ (by kernel_rfl) (by kernel_rfl) (by kernel_rfl) (by kernel_rfl) (Eq.mp (by kernel_rfl) (hK 1 h)) (.inr rfl)
        · refine AW.skip ?_
          refine q_fall ?_
          refine AW.sregL [(0, none)] (by kernel_rfl) ?_
          refine l_det (some 4) (.one (.d (.int .i64 0)), []) (by kernel_rfl) ?_
          refine l_nil ?_
          refine AW.ret ?_
          exact q_end [.one (.d (.int .i64 0))] [false] [.one (.d (.int .i64 0))] [] [] (by kernel_rfl) ⟨by kernel_rfl, by kernel_rfl⟩ (by kernel_rfl) (by kernel_rfl) (by kernel_rfl) (by kernel_rfl) (Eq.mp (by kernel_rfl) (hK 0 h)) (.inr rfl)
def r81_0 : List AR := [⟨some 2, .mov (.c (.int .i64 0)), [], none⟩]
def r81_1 : List AR := [⟨some 3, .mov (.c (.int .i64 0)), [], none⟩]
def r81_2 : List AR := [⟨some 6, .mov (.t 0), [], none⟩,
  ⟨some 7, .lens (.t 6), [0], none⟩,
  ⟨some 8, .mov (.c (.int .i64 0)), [], none⟩]
def r81_3 : List AR := [⟨some 9, .bin .lss (.t 8) (.t 7), [], none⟩]
def r81_4 : List AR := [⟨some 10, .iad 1 (.t 6) (.t 8), [], none⟩,
  ⟨some 11, .ld false 1 (.t 10), [0], none⟩,
  ⟨some 5, .mov (.t 11), [1, 0, 1], none⟩]
def r81_5 : List AR := [⟨some 12, .mov (.t 5), [], none⟩,
  ⟨some 13, .mov (.t 3), [], none⟩,
  ⟨some 14, .bin .neq (.t 12) (.t 13), [0, 1], none⟩]
def r81_6 : List AR := [⟨some 15, .mov (.t 5), [], none⟩,
  ⟨some 2, .mov (.t 15), [0, 0], none⟩]
def r81_7 : List AR := [⟨some 16, .bin .add (.t 8) (.c (.int .i64 1)), [], none⟩,
  ⟨some 8, .mov (.t 16), [0], none⟩]
def r81_8 : List AR := [⟨some 17, .mov (.t 3), [], none⟩,
  ⟨some 2, .mov (.t 17), [0, 0], none⟩]
def c81 : ACode := .seq (.reg r81_0 false) (.seq (.reg r81_1 false) (.seq (.seq (.reg r81_2 false) (.blk 0 (.loop (.seq (.reg r81_3 false) (.seq (.cond (.t 9) (.skip) (.exit 0)) (.seq (.blk 1 (.seq (.reg r81_4 false) (.seq (.reg r81_5 false) (.cond (.t 14) (.seq (.reg r81_6 false) (.ret)) (.skip))))) (.reg r81_7 false))))))) (.seq (.reg r81_8 false) (.ret))))
theorem body81 : Try.f81.body.map (comp Try.prog 18) = some c81 := by kernel_rfl
theorem res81 : allSome (Try.f81.results.toList.map (compRes Try.prog)) = some [.s 2] := by kernel_rfl
theorem cok81 {S : FSpec} (h : ∀ args K, S args K → args.all argOk = true ∧ args.length ≤ 18 ∧ AW Try.prog 18 (some ownP) c81 (initS args) (retPost [.s 2] args K)) : COK Try.prog 81 S := of_body Try.func81 Try.ntmps81 body81 res81 h

def L81_1 (vals_81 : List Int) (K : Int → Prop) (v3320 : Int) (N3325 : Int → Prop) : Prop :=
  Cond (decide (v3320 < (vals_81.length : Int))) (Idx vals_81 v3320 fun x3329 => Cond (decide (¬ x3329 = 0)) (K x3329) (N3325 (w64 (v3320 + 1)))) (K 0)

/-- cmp.Or[int] -/
def W81 (vals_81 : List Int) (K : Int → Prop) : Prop :=
  LoopW (fun (s : Int) N3325 => L81_1 vals_81 K s N3325) 0

def S81 : FSpec := fun args K => ∃ (vals_81 : List Int), ∃ (Kr : Int → Prop), args = [.one (.d (.sl (List.map (eInt .i64) vals_81)))] ∧ W81 vals_81 Kr ∧ ∀ r, Kr r → K (.one (.d (.int .i64 r))) []

theorem en81 : enters Try.prog 81 = true := by unfold enters; rw [Try.func81]; rfl
theorem cl81 (vals_81 : List Int) {Kr : Int → Prop} (h : W81 vals_81 Kr) : S81 [.one (.d (.sl (List.map (eInt .i64) vals_81)))] (fun rv rows => ∃ r, rv = (.one (.d (.int .i64 r))) ∧ rows = [] ∧ Kr r) := ⟨vals_81, Kr, rfl, h, fun r hr => ⟨r, rfl, rfl, hr⟩⟩

theorem ok81 : COK Try.prog 81 S81 := by
  refine cok81 fun args K0 hS => ?_
  obtain ⟨vals_81, K, rfl, h, hK⟩ := hS
  refine ⟨by kernel_rfl, by simp, ?_⟩
  unfold W81 at h
  refine AW.sregL [(0, none)] (by kernel_rfl) ?_
  refine l_det (some 2) (.one (.d (.int .i64 0)), []) (by kernel_rfl) ?_
  refine l_nil ?_
  refine AW.sregL [(0, none)] (by kernel_rfl) ?_
  refine l_det (some 3) (.one (.d (.int .i64 0)), []) (by kernel_rfl) ?_
  refine l_nil ?_
  refine AW.seq ?_
  refine AW.sregL [(0, none), (1, none), (2, none)] (by kernel_rfl) ?_
  refine l_det (some 6) (.one (.d (.sl (List.map (eInt .i64) vals_81))), []) (by kernel_rfl) ?_
  refine l_spec (some 7) (.lens (.t 6)) (.one (.d (.int .i64 (vals_81.length : Int))), []) (by kernel_rfl) (detA_none (d_lens_sl (enc := (eInt .i64)) vals_81 (by kernel_rfl))) ?_
  refine l_det (some 8) (.one (.d (.int .i64 0)), []) (by kernel_rfl) ?_
  refine l_nil ?_
  refine AW.blk ?_
  refine AW.loopL (S := Int) (fun s => (fun (v3320 : Int) => [(3, .one (.d (.int .i64 0))), (6, .one (.d (.sl (List.map (eInt .i64) vals_81)))), (7, .one (.d (.int .i64 (vals_81.length : Int)))), (8, .one (.d (.int .i64 v3320)))]) s) (fun s => (fun (v3320 : Int) => []) s) (fun (s : Int) N3325 => L81_1 vals_81 K s N3325) (N := fun s => LoopW (fun (s : Int) N3325 => L81_1 vals_81 K s N3325) s) (Lab.mk 0 [] (by kernel_rfl) (by kernel_rfl) (by kernel_rfl) (by kernel_rfl) h) (fun _ h => h) ?_
  rintro v3320 N3325 h
  have h : L81_1 vals_81 K v3320 N3325 := h
  unfold L81_1 at h
  refine AW.sregL [(0, none)] (by kernel_rfl) ?_
  refine l_det (some 9) (.one (.d (.bool (decide (v3320 < (vals_81.length : Int))))), []) (by kernel_rfl) ?_
  refine l_nil ?_
  refine AW.seq ?_
  refine AW.cond' (by kernel_rfl) h (fun h => ?_) (fun h => ?_)
  · refine AW.skip ?_
    refine q_fall ?_
    refine AW.seq ?_
    refine AW.blk ?_
    refine AW.sregL [(0, none), (1, none), (2, none)] (by kernel_rfl) ?_
    obtain ⟨h47, x3329, h48, h⟩ := h
    refine l_spec (some 10) (.iad 1 (.t 6) (.t 8)) (.one (.d (.ptr [.int .i64 x3329])), []) (by kernel_rfl) (detA_none (d_iad_sl (enc := (eInt .i64)) (k := .i64) vals_81 x3329 (by kernel_rfl) (by kernel_rfl) h47 h48 rfl)) ?_
    refine l_det (some 11) (.one (.d (.int .i64 x3329)), []) (by kernel_rfl) ?_
    refine l_det (some 5) (.one (.d (.int .i64 x3329)), []) (by kernel_rfl) ?_
    refine l_nil ?_
    refine AW.sregL [(0, none), (1, none), (2, none)] (by kernel_rfl) ?_
    refine l_det (some 12) (.one (.d (.int .i64 x3329)), []) (by kernel_rfl) ?_
    refine l_det (some 13) (.one (.d (.int .i64 0)), []) (by kernel_rfl) ?_
    refine l_det (some 14) (.one (.d (.bool (decide (¬ x3329 = 0)))), []) (by kernel_rfl) ?_
    refine l_nil ?_
    refine AW.cond' (by kernel_rfl) h (fun h => ?_) (fun h => ?_)
    · refine AW.sregL [(0, none), (1, none)] (by kernel_rfl) ?_
      refine l_det (some 15) (.one (.d (.int .i64 x3329)), []) (by kernel_rfl) ?_
      refine l_det (some 2) (.one (.d (.int .i64 x3329)), []) (by kernel_rfl) ?_
      refine l_nil ?_
      refine AW.ret ?_
      refine q_bret ?_
      refine q_ret ?_
      refine q_ret ?_
      refine q_bret ?_
      refine q_ret ?_
      exact q_end [.one (.d (.int .i64 x3329))] [false] [.one (.d (.int .i64 x3329))] [] [] (by kernel_rfl) ⟨by kernel_rfl, by kernel_rfl⟩ (by kernel_rfl) (by kernel_rfl) (by kernel_rfl) (by kernel_rfl) (Eq.mp (by kernel_rfl) (hK x3329 h)) (.inr rfl)
    · refine AW.skip ?_
      refine q_bfall ?_
      refine q_fall ?_
      refine AW.regL [(0, none), (1, none)] (by kernel_rfl) ?_
      refine l_det (some 16) (.one (.d (.int .i64 (w64 (v3320 + 1)))), []) (by kernel_rfl) ?_
      refine l_det (some 8) (.one (.d (.int .i64 (w64 (v3320 + 1)))), []) (by kernel_rfl) ?_
      refine l_nil ?_
      refine q_fall ?_
      exact Lab.mk (w64 (v3320 + 1)) [] (by kernel_rfl) (by kernel_rfl) (by kernel_rfl) (by kernel_rfl) h
  · refine AW.exit ?_
    refine q_exit ?_
    refine q_exit ?_
    refine q_bhere ?_
    refine q_fall ?_
    refine AW.sregL [(0, none), (1, none)] (by kernel_rfl) ?_
    refine l_det (some 17) (.one (.d (.int .i64 0)), []) (by kernel_rfl) ?_
    refine l_det (some 2) (.one (.d (.int .i64 0)), []) (by kernel_rfl) ?_
    refine l_nil ?_
    refine AW.ret ?_
    exact q_end [.one (.d (.int .i64 0))] [false] [.one (.d (.int .i64 0))] [] [] (by kernel_rfl) ⟨by kernel_rfl, by kernel_rfl⟩ (by kernel_rfl) (by kernel_rfl) (by kernel_rfl) (by kernel_rfl) (Eq.mp (by kernel_rfl) (hK 0 h)) (.inr rfl)
def r67_0 : List AR := [⟨some 2, .box 39 true 3 (.t 0), [], none⟩,
  ⟨some 3, .box 39 true 3 (.t 1), [], none⟩,
  ⟨some 4, .mov (.c (.int .i64 0)), [], none⟩]
def r67_1 : List AR := [⟨some 5, .fad (.t 2) 0, [], none⟩,
  ⟨some 6, .ld false 1 (.t 5), [0], none⟩,
  ⟨some 7, .fad (.t 3) 0, [], none⟩,
  ⟨some 8, .ld false 1 (.t 7), [2], none⟩,
  ⟨some 9, .call 82 [.t 6, .t 8], [1, 3], none⟩,
  ⟨some 10, .fad (.t 2) 1, [], none⟩,
  ⟨some 11, .ld false 1 (.t 10), [5], none⟩,
  ⟨some 12, .fad (.t 3) 1, [], none⟩,
  ⟨some 13, .ld false 1 (.t 12), [7], none⟩,
  ⟨some 14, .call 82 [.t 11, .t 13], [6, 8, 4], none⟩,
  ⟨some 15, .fad (.t 2) 2, [], none⟩,
  ⟨some 16, .ld false 1 (.t 15), [10], none⟩,
  ⟨some 17, .fad (.t 3) 2, [], none⟩,
  ⟨some 18, .ld false 1 (.t 17), [12], none⟩,
  ⟨some 19, .call 82 [.t 16, .t 18], [11, 13, 9], none⟩,
  ⟨some 20, .bsl 3 1 3 [.int .i64 0] [(0, .t 9), (1, .t 14), (2, .t 19)], [4, 9, 14], none⟩,
  ⟨some 21, .call 81 [.t 20], [15, 14], none⟩,
  ⟨some 4, .mov (.t 21), [16, 16, 0, 1, 2, 3, 4, 5, 6, 7, 8, 9, 10, 11, 12, 13, 14, 15, 16], none⟩]
def c67 : ACode := .seq (.reg r67_0 false) (.seq (.reg r67_1 true) (.ret))
theorem body67 : Try.f67.body.map (comp Try.prog 22) = some c67 := by kernel_rfl
theorem res67 : allSome (Try.f67.results.toList.map (compRes Try.prog)) = some [.s 4] := by kernel_rfl
theorem cok67 {S : FSpec} (h : ∀ args K, S args K → args.all argOk = true ∧ args.length ≤ 22 ∧ AW Try.prog 22 (some ownP) c67 (initS args) (retPost [.s 4] args K)) : COK Try.prog 67 S := of_body Try.func67 Try.ntmps67 body67 res67 h

/-- sleuth/estimate.compare -/
def W67 (a_67 : TGroup) (b_67 : TGroup) (K : Int → Prop) : Prop :=
  W82 a_67.service b_67.service fun r3331 => W82 a_67.version b_67.version fun r3332 => W82 a_67.operation b_67.operation fun r3333 => W81 [r3331, r3332, r3333] fun r3334 => K r3334

def S67 : FSpec := fun args K => ∃ (a_67 : TGroup), ∃ (b_67 : TGroup), ∃ (Kr : Int → Prop), args = [.agg (List.map RC.d (TGroup.enc a_67)), .agg (List.map RC.d (TGroup.enc b_67))] ∧ W67 a_67 b_67 Kr ∧ ∀ r, Kr r → K (.one (.d (.int .i64 r))) []

theorem en67 : enters Try.prog 67 = true := by unfold enters; rw [Try.func67]; rfl
theorem cl67 (a_67 : TGroup) (b_67 : TGroup) {Kr : Int → Prop} (h : W67 a_67 b_67 Kr) : S67 [.agg (List.map RC.d (TGroup.enc a_67)), .agg (List.map RC.d (TGroup.enc b_67))] (fun rv rows => ∃ r, rv = (.one (.d (.int .i64 r))) ∧ rows = [] ∧ Kr r) := ⟨a_67, b_67, Kr, rfl, h, fun r hr => ⟨r, rfl, rfl, hr⟩⟩

theorem ok67 : COK Try.prog 67 S67 := by
  refine cok67 fun args K0 hS => ?_
  obtain ⟨a_67, b_67, K, rfl, h, hK⟩ := hS
  refine ⟨by kernel_rfl, by simp, ?_⟩
  unfold W67 at h
  refine AW.sregL [(0, none), (1, none), (2, none)] (by kernel_rfl) ?_
  refine l_det (some 2) (.one (.ref 2 1 0 0), [(2, 1, .row true 39 3 [[.d (.str a_67.service), .d (.str a_67.version), .d (.str a_67.operation)]])]) (by kernel_rfl) ?_
  refine l_det (some 3) (.one (.ref 3 1 0 0), [(3, 1, .row true 39 3 [[.d (.str b_67.service), .d (.str b_67.version), .d (.str b_67.operation)]])]) (by kernel_rfl) ?_
  refine l_det (some 4) (.one (.d (.int .i64 0)), []) (by kernel_rfl) ?_
  refine l_nil ?_
  refine AW.sregdL follows_mixed [[], [0], [], [2], [0, 1, 2, 3], [], [5], [], [7], [0, 1, 2, 3, 4, 5, 6, 7, 8], [], [10], [], [12], [0, 1, 2, 3, 4, 5, 6, 7, 8, 9, 10, 11, 12, 13], [0, 1, 2, 3, 4, 5, 6, 7, 8, 9, 10, 11, 12, 13, 14], [0, 1, 2, 3, 4, 5, 6, 7, 8, 9, 10, 11, 12, 13, 14, 15], [0, 1, 2, 3, 4, 5, 6, 7, 8, 9, 10, 11, 12, 13, 14, 15, 16]] [(0, none), (1, none), (2, none), (3, none), (5, none), (6, some [11, 1000002]), (7, none), (8, some [13, 1000003]), (10, none), (11, some [16, 1000002]), (12, none), (13, some [18, 1000003]), (4, some [9]), (9, some [14]), (14, none), (15, none), (16, none), (17, none)] (by kernel_rfl) ?_
  refine l_det (some 5) (.one (.ref 2 1 0 0), []) (by kernel_rfl) ?_
  refine l_det (some 6) (.one (.d (.str a_67.service)), []) (by kernel_rfl) ?_
  refine l_det (some 7) (.one (.ref 3 1 0 0), []) (by kernel_rfl) ?_
  refine l_det (some 8) (.one (.d (.str b_67.service)), []) (by kernel_rfl) ?_
  refine l_det (some 10) (.one (.ref 2 1 0 1), []) (by kernel_rfl) ?_
  refine l_det (some 11) (.one (.d (.str a_67.version)), []) (by kernel_rfl) ?_
  refine l_det (some 12) (.one (.ref 3 1 0 1), []) (by kernel_rfl) ?_
  refine l_det (some 13) (.one (.d (.str b_67.version)), []) (by kernel_rfl) ?_
  refine l_det (some 15) (.one (.ref 2 1 0 2), []) (by kernel_rfl) ?_
  refine l_det (some 16) (.one (.d (.str a_67.operation)), []) (by kernel_rfl) ?_
  refine l_det (some 17) (.one (.ref 3 1 0 2), []) (by kernel_rfl) ?_
  refine l_det (some 18) (.one (.d (.str b_67.operation)), []) (by kernel_rfl) ?_
  refine l_call ok82 en82 (some 9) [.one (.d (.str a_67.service)), .one (.d (.str b_67.service))] [false, false] [.one (.d (.str a_67.service)), .one (.d (.str b_67.service))] [] (by kernel_rfl) ⟨by kernel_rfl, by kernel_rfl⟩ (by kernel_rfl) (by kernel_rfl) (by kernel_rfl) (cl82 a_67.service b_67.service h) ?_
  rintro hR _ _ ⟨r3331, rfl, rfl, h⟩
  refine ⟨false, (.one (.d (.int .i64 r3331)), []), (fun hz => (by cases hz)), (ret_R hR (by kernel_rfl)), ?_⟩
  refine l_call ok82 en82 (some 14) [.one (.d (.str a_67.version)), .one (.d (.str b_67.version))] [false, false] [.one (.d (.str a_67.version)), .one (.d (.str b_67.version))] [] (by kernel_rfl) ⟨by kernel_rfl, by kernel_rfl⟩ (by kernel_rfl) (by kernel_rfl) (by kernel_rfl) (cl82 a_67.version b_67.version h) ?_
  rintro hR _ _ ⟨r3332, rfl, rfl, h⟩
  refine ⟨false, (.one (.d (.int .i64 r3332)), []), (fun hz => (by cases hz)), (ret_R hR (by kernel_rfl)), ?_⟩
  refine l_call ok82 en82 (some 19) [.one (.d (.str a_67.operation)), .one (.d (.str b_67.operation))] [false, false] [.one (.d (.str a_67.operation)), .one (.d (.str b_67.operation))] [] (by kernel_rfl) ⟨by kernel_rfl, by kernel_rfl⟩ (by kernel_rfl) (by kernel_rfl) (by kernel_rfl) (cl82 a_67.operation b_67.operation h) ?_
  rintro hR _ _ ⟨r3333, rfl, rfl, h⟩
  refine ⟨false, (.one (.d (.int .i64 r3333)), []), (fun hz => (by cases hz)), (ret_R hR (by kernel_rfl)), ?_⟩
  refine l_det (some 20) (.one (.view 20 1 0 3), [(20, 1, .row true 3 1 [[.d (.int .i64 r3331)], [.d (.int .i64 r3332)], [.d (.int .i64 r3333)]])]) (by kernel_rfl) ?_
  refine l_call ok81 en81 (some 21) [.one (.view 20 1 0 3)] [false] [.one (.d (.sl [[.int .i64 r3331], [.int .i64 r3332], [.int .i64 r3333]]))] [20] (by kernel_rfl) ⟨by kernel_rfl, by kernel_rfl⟩ (by kernel_rfl) (by kernel_rfl) (by kernel_rfl) (cl81 [r3331, r3332, r3333] h) ?_
  rintro hR _ _ ⟨r3334, rfl, rfl, h⟩
  refine ⟨true, (.one (.d (.int .i64 r3334)), []), (fun _ => (by kernel_rfl)), (by kernel_rfl), ?_⟩
  refine l_det (some 4) (.one (.d (.int .i64 r3334)), []) (by kernel_rfl) ?_
  refine l_nil ?_
  refine AW.ret ?_
  exact q_end [.one (.d (.int .i64 r3334))] [false] [.one (.d (.int .i64 r3334))] [] [] (by kernel_rfl) ⟨by kernel_rfl, by kernel_rfl⟩ (by kernel_rfl) (by kernel_rfl) (by kernel_rfl) (by kernel_rfl) (Eq.mp (by kernel_rfl) (hK r3334 h)) (.inr rfl)
def r66_0 : List AR := [⟨some 2, .box 41 true 7 (.t 0), [], none⟩,
  ⟨some 3, .box 41 true 7 (.t 1), [], none⟩,
  ⟨some 4, .mov (.c (.int .i64 0)), [], none⟩]
def r66_1 : List AR := [⟨some 5, .fad (.t 2) 0, [], none⟩,
  ⟨some 6, .ld true 3 (.t 5), [0], none⟩,
  ⟨some 7, .fad (.t 3) 0, [], none⟩,
  ⟨some 8, .ld true 3 (.t 7), [2], none⟩,
  ⟨some 9, .call 67 [.t 6, .t 8], [1, 3], none⟩,
  ⟨some 4, .mov (.t 9), [4, 4, 0, 1, 2, 3, 4], none⟩]
def c66 : ACode := .seq (.reg r66_0 false) (.seq (.reg r66_1 false) (.ret))
theorem body66 : Try.f66.body.map (comp Try.prog 10) = some c66 := by kernel_rfl
theorem res66 : allSome (Try.f66.results.toList.map (compRes Try.prog)) = some [.s 4] := by kernel_rfl
theorem cok66 {S : FSpec} (h : ∀ args K, S args K → args.all argOk = true ∧ args.length ≤ 10 ∧ AW Try.prog 10 (some ownP) c66 (initS args) (retPost [.s 4] args K)) : COK Try.prog 66 S := of_body Try.func66 Try.ntmps66 body66 res66 h

/-- sleuth/estimate.lines$1 -/
def W66 (a_66 : TLine) (b_66 : TLine) (K : Int → Prop) : Prop :=
  W67 a_66.group b_66.group fun r3336 => K r3336

def S66 : FSpec := fun args K => ∃ (a_66 : TLine), ∃ (b_66 : TLine), ∃ (Kr : Int → Prop), args = [.agg (List.map RC.d (TLine.enc a_66)), .agg (List.map RC.d (TLine.enc b_66))] ∧ W66 a_66 b_66 Kr ∧ ∀ r, Kr r → K (.one (.d (.int .i64 r))) []

theorem en66 : enters Try.prog 66 = true := by unfold enters; rw [Try.func66]; rfl
theorem cl66 (a_66 : TLine) (b_66 : TLine) {Kr : Int → Prop} (h : W66 a_66 b_66 Kr) : S66 [.agg (List.map RC.d (TLine.enc a_66)), .agg (List.map RC.d (TLine.enc b_66))] (fun rv rows => ∃ r, rv = (.one (.d (.int .i64 r))) ∧ rows = [] ∧ Kr r) := ⟨a_66, b_66, Kr, rfl, h, fun r hr => ⟨r, rfl, rfl, hr⟩⟩

theorem ok66 : COK Try.prog 66 S66 := by
  refine cok66 fun args K0 hS => ?_
  obtain ⟨a_66, b_66, K, rfl, h, hK⟩ := hS
  refine ⟨by kernel_rfl, by simp, ?_⟩
  unfold W66 at h
  refine AW.sregL [(0, none), (1, none), (2, none)] (by kernel_rfl) ?_
  refine l_det (some 2) (.one (.ref 2 1 0 0), [(2, 1, .row true 41 7 [[.d (.str a_66.group.service), .d (.str a_66.group.version), .d (.str a_66.group.operation), .d (.int .i64 a_66.total.spans), .d (.int .i64 a_66.total.errors), .d (.int .i64 a_66.total.duration), .d (.int .i64 a_66.total.traces)]])]) (by kernel_rfl) ?_
  refine l_det (some 3) (.one (.ref 3 1 0 0), [(3, 1, .row true 41 7 [[.d (.str b_66.group.service), .d (.str b_66.group.version), .d (.str b_66.group.operation), .d (.int .i64 b_66.total.spans), .d (.int .i64 b_66.total.errors), .d (.int .i64 b_66.total.duration), .d (.int .i64 b_66.total.traces)]])]) (by kernel_rfl) ?_
  refine l_det (some 4) (.one (.d (.int .i64 0)), []) (by kernel_rfl) ?_
  refine l_nil ?_
  refine AW.sregL [(0, none), (1, none), (2, none), (3, none), (4, none), (5, none)] (by kernel_rfl) ?_
  refine l_det (some 5) (.one (.ref 2 1 0 0), []) (by kernel_rfl) ?_
  refine l_det (some 6) (.agg [.d (.str a_66.group.service), .d (.str a_66.group.version), .d (.str a_66.group.operation)], []) (by kernel_rfl) ?_
  refine l_det (some 7) (.one (.ref 3 1 0 0), []) (by kernel_rfl) ?_
  refine l_det (some 8) (.agg [.d (.str b_66.group.service), .d (.str b_66.group.version), .d (.str b_66.group.operation)], []) (by kernel_rfl) ?_
  refine l_call ok67 en67 (some 9) [.agg [.d (.str a_66.group.service), .d (.str a_66.group.version), .d (.str a_66.group.operation)], .agg [.d (.str b_66.group.service), .d (.str b_66.group.version), .d (.str b_66.group.operation)]] [false, false] [.agg (List.map RC.d [.str a_66.group.service, .str a_66.group.version, .str a_66.group.operation]), .agg (List.map RC.d [.str b_66.group.service, .str b_66.group.version, .str b_66.group.operation])] [] (by kernel_rfl) ⟨by kernel_rfl, by kernel_rfl⟩ (by kernel_rfl) (by kernel_rfl) (by kernel_rfl) (cl67 a_66.group b_66.group h) ?_
  rintro hR _ _ ⟨r3336, rfl, rfl, h⟩
  refine ⟨false, (.one (.d (.int .i64 r3336)), []), (fun hz => (by cases hz)), (ret_R hR (by kernel_rfl)), ?_⟩
  refine l_det (some 4) (.one (.d (.int .i64 r3336)), []) (by kernel_rfl) ?_
  refine l_nil ?_
  refine AW.ret ?_
  exact q_end [.one (.d (.int .i64 r3336))] [false] [.one (.d (.int .i64 r3336))] [] [] (by kernel_rfl) ⟨by kernel_rfl, by kernel_rfl⟩ (by kernel_rfl) (by kernel_rfl) (by kernel_rfl) (by kernel_rfl) (Eq.mp (by kernel_rfl) (hK r3336 h)) (.inr rfl)
def r88_0 : List AR := [⟨some 10, .mov (.t 1), [], none⟩,
  ⟨some 11, .bin .add (.t 10) (.c (.int .i64 1)), [0], none⟩,
  ⟨some 8, .mov (.t 11), [1, 0, 1], none⟩]
def r88_1 : List AR := [⟨some 12, .mov (.t 8), [], none⟩,
  ⟨some 13, .mov (.t 2), [], none⟩,
  ⟨some 14, .bin .lss (.t 12) (.t 13), [0, 1], none⟩]
def r88_2 : List AR := [⟨some 17, .mov (.t 8), [], none⟩,
  ⟨some 9, .mov (.t 17), [0, 0], none⟩]
def r88_3 : List AR := [⟨some 18, .mov (.t 9), [], none⟩,
  ⟨some 19, .mov (.t 1), [], none⟩,
  ⟨some 20, .bin .gtr (.t 18) (.t 19), [0, 1], none⟩,
  ⟨some 21, .mov (.t 20), [2], none⟩,
  ⟨some 22, .mov (.t 3), [3], some (21, true)⟩,
  ⟨some 23, .mov (.t 0), [3], some (21, true)⟩,
  ⟨some 24, .mov (.t 9), [3], some (21, true)⟩,
  ⟨some 25, .iad 7 (.t 23) (.t 24), [5, 6, 3], some (21, true)⟩,
  ⟨some 26, .ld true 7 (.t 25), [7, 3], some (21, true)⟩,
  ⟨some 27, .mov (.t 0), [3], some (21, true)⟩,
  ⟨some 28, .mov (.t 9), [3], some (21, true)⟩,
  ⟨some 29, .bin .sub (.t 28) (.c (.int .i64 1)), [10, 3], some (21, true)⟩,
  ⟨some 30, .iad 7 (.t 27) (.t 29), [9, 11, 3], some (21, true)⟩,
  ⟨some 31, .ld true 7 (.t 30), [12, 3], some (21, true)⟩,
  ⟨some 32, .callv (.t 22) [.t 26, .t 31], [4, 8, 13, 3, 3], some (21, true)⟩,
  ⟨some 33, .bin .lss (.t 32) (.c (.int .i64 0)), [14, 3], some (21, true)⟩,
  ⟨some 34, .pick (.t 21) (.t 33) (.c (.bool false)), [3, 15], none⟩]
def r88_4 : List AR := [⟨some 37, .mov (.t 0), [], none⟩,
  ⟨some 38, .mov (.t 9), [], none⟩,
  ⟨some 39, .mov (.t 0), [], none⟩,
  ⟨some 40, .mov (.t 9), [], none⟩,
  ⟨some 41, .bin .sub (.t 40) (.c (.int .i64 1)), [3], none⟩,
  ⟨some 42, .mov (.t 0), [], none⟩,
  ⟨some 43, .mov (.t 9), [], none⟩,
  ⟨some 44, .bin .sub (.t 43) (.c (.int .i64 1)), [6], none⟩,
  ⟨some 45, .iad 7 (.t 42) (.t 44), [5, 7], none⟩,
  ⟨some 46, .ld true 7 (.t 45), [8], none⟩,
  ⟨some 47, .mov (.t 0), [], none⟩,
  ⟨some 48, .mov (.t 9), [], none⟩,
  ⟨some 49, .iad 7 (.t 47) (.t 48), [10, 11], none⟩,
  ⟨some 50, .ld true 7 (.t 49), [12], none⟩,
  ⟨some 51, .iad 7 (.t 37) (.t 38), [0, 1, 0, 1, 5, 6, 7, 8, 9, 13], none⟩,
  ⟨none, .st 7 (.t 51) (.t 46), [14, 9, 0, 1, 5, 6, 7, 8, 9, 13], none⟩,
  ⟨some 52, .iad 7 (.t 39) (.t 41), [2, 4, 0, 1, 2, 3, 4, 5, 6, 7, 8, 9, 10, 11, 12, 13, 14, 15], none⟩,
  ⟨none, .st 7 (.t 52) (.t 50), [16, 13, 15, 0, 1, 2, 3, 4, 5, 6, 7, 8, 9, 10, 11, 12, 13, 14, 15], none⟩]
def r88_5 : List AR := [⟨some 35, .mov (.t 9), [], none⟩,
  ⟨some 36, .bin .sub (.t 35) (.c (.int .i64 1)), [0], none⟩,
  ⟨some 9, .mov (.t 36), [1, 0, 1], none⟩]
def r88_6 : List AR := [⟨some 15, .mov (.t 8), [], none⟩,
  ⟨some 16, .bin .add (.t 15) (.c (.int .i64 1)), [0], none⟩,
  ⟨some 8, .mov (.t 16), [1, 0, 1], none⟩]
def c88 : ACode := .seq (.reg r88_0 false) (.blk 0 (.loop (.seq (.seq (.reg r88_1 false) (.cond (.t 14) (.skip) (.exit 0))) (.seq (.blk 1 (.seq (.reg r88_2 false) (.blk 2 (.loop (.seq (.seq (.reg r88_3 true) (.cond (.t 34) (.skip) (.exit 2))) (.seq (.blk 3 (.reg r88_4 true)) (.reg r88_5 false))))))) (.reg r88_6 false)))))
theorem body88 : Try.f88.body.map (comp Try.prog 53) = some c88 := by kernel_rfl
theorem res88 : allSome (Try.f88.results.toList.map (compRes Try.prog)) = some [] := by kernel_rfl
theorem cok88 {S : FSpec} (h : ∀ args K, S args K → args.all argOk = true ∧ args.length ≤ 53 ∧ AW Try.prog 53 (some ownP) c88 (initS args) (retPost [] args K)) : COK Try.prog 88 S := of_body Try.func88 Try.ntmps88 body88 res88 h

def J88c66_3 (v3769 : List TLine) (v3770 : Int) (N3797 : ((List TLine) × Int) → Prop) (N3661 : ((List TLine) × Int) → Prop) (v3498 : Int) (v3814 : Bool) : Prop :=
  Cond v3814 (Idx v3769 (w64 (v3770 - 1)) fun x3818 => Idx v3769 v3770 fun x3819 => Idx (List.set v3769 v3770.toNat x3818) (w64 (v3770 - 1)) fun x3820 => N3797 ((List.set (List.set v3769 v3770.toNat x3818) ((w64 (v3770 - 1)).toNat) x3819), (w64 (v3770 - 1)))) (N3661 (v3769, (w64 (v3498 + 1))))

def L88c66_2 (a_88c66 : Int) (N3661 : ((List TLine) × Int) → Prop) (v3498 : Int) (v3769 : List TLine) (v3770 : Int) (N3797 : ((List TLine) × Int) → Prop) : Prop :=
  Cond (decide (v3770 > a_88c66)) (Idx v3769 v3770 fun x3821 => Idx v3769 (w64 (v3770 - 1)) fun x3822 => W66 x3821 x3822 fun r3823 => J88c66_3 v3769 v3770 N3797 N3661 v3498 (decide (r3823 < 0))) (J88c66_3 v3769 v3770 N3797 N3661 v3498 false)

def L88c66_1 (b_88c66 : Int) (a_88c66 : Int) (data_88c66 : List TLine) (K : (List TLine) → Prop) (v3497 : List TLine) (v3498 : Int) (N3661 : ((List TLine) × Int) → Prop) : Prop :=
  Cond (decide (v3498 < b_88c66)) (LoopW (fun (s : ((List TLine) × Int)) N3797 => L88c66_2 a_88c66 N3661 v3498 s.1 s.2 N3797) (v3497, v3498)) (v3497.length = data_88c66.length ∧ K v3497)

/-- slices.insertionSortCmpFunc[sleuth/estimate.Line] -/
def W88c66 (data_88c66 : List TLine) (a_88c66 : Int) (b_88c66 : Int) (K : (List TLine) → Prop) : Prop :=
  LoopW (fun (s : ((List TLine) × Int)) N3661 => L88c66_1 b_88c66 a_88c66 data_88c66 K s.1 s.2 N3661) (data_88c66, (w64 (a_88c66 + 1)))

def S88c66 : FSpec := fun args K => ∃ (data_88c66 : List TLine), ∃ (a_88c66 : Int), ∃ (b_88c66 : Int), ∃ (Kr : (List TLine) → Prop), args = [.one (.own 41 7 (List.map TLine.enc data_88c66)), .one (.d (.int .i64 a_88c66)), .one (.d (.int .i64 b_88c66)), .one (.d (.fn 66 []))] ∧ W88c66 data_88c66 a_88c66 b_88c66 Kr ∧ ∀ r, r.length = data_88c66.length → Kr r → K (.tup []) [List.map TLine.enc r]

theorem en88 : enters Try.prog 88 = true := by unfold enters; rw [Try.func88]; rfl
theorem cl88c66 (data_88c66 : List TLine) (a_88c66 : Int) (b_88c66 : Int) {Kr : (List TLine) → Prop} (h : W88c66 data_88c66 a_88c66 b_88c66 Kr) : S88c66 [.one (.own 41 7 (List.map TLine.enc data_88c66)), .one (.d (.int .i64 a_88c66)), .one (.d (.int .i64 b_88c66)), .one (.d (.fn 66 []))] (fun rv rows => ∃ r, rv = (.tup []) ∧ rows = [List.map TLine.enc r] ∧ r.length = data_88c66.length ∧ Kr r) := ⟨data_88c66, a_88c66, b_88c66, Kr, rfl, h, fun r hl hr => ⟨r, rfl, rfl, hl, hr⟩⟩

theorem ok88c66 : COK Try.prog 88 S88c66 := by
  refine cok88 fun args K0 hS => ?_
  obtain ⟨data_88c66, a_88c66, b_88c66, K, rfl, h, hK⟩ := hS
  refine ⟨by kernel_rfl, by simp, ?_⟩
  unfold W88c66 at h
  refine AW.sregL [(0, none), (1, none), (2, none)] (by kernel_rfl) ?_
  refine l_det (some 10) (.one (.d (.int .i64 a_88c66)), []) (by kernel_rfl) ?_
  refine l_det (some 11) (.one (.d (.int .i64 (w64 (a_88c66 + 1)))), []) (by kernel_rfl) ?_
  refine l_det (some 8) (.one (.d (.int .i64 (w64 (a_88c66 + 1)))), []) (by kernel_rfl) ?_
  refine l_nil ?_
  refine AW.blk ?_
  refine AW.loopL (S := ((List TLine) × Int)) (fun s => (fun (v3497 : List TLine) (v3498 : Int) => [(0, .one (.view 900000 0 0 ((List.map TLine.enc v3497).length))), (1, .one (.d (.int .i64 a_88c66))), (2, .one (.d (.int .i64 b_88c66))), (3, .one (.d (.fn 66 []))), (8, .one (.d (.int .i64 v3498)))]) s.1 s.2) (fun s => (fun (v3497 : List TLine) (v3498 : Int) => [(900000, .pure true 41 7 (List.map TLine.enc v3497))]) s.1 s.2) (fun (s : ((List TLine) × Int)) N3661 => L88c66_1 b_88c66 a_88c66 data_88c66 K s.1 s.2 N3661) (N := fun s => LoopW (fun (s : ((List TLine) × Int)) N3661 => L88c66_1 b_88c66 a_88c66 data_88c66 K s.1 s.2 N3661) s) (Lab.mk (data_88c66, (w64 (a_88c66 + 1))) [(900000, some 900000)] (by kernel_rfl) (by kernel_rfl) (by kernel_rfl) (by kernel_rfl) h) (fun _ h => h) ?_
  rintro ⟨v3497, v3498⟩ N3661 h
  have h : L88c66_1 b_88c66 a_88c66 data_88c66 K v3497 v3498 N3661 := h
  unfold L88c66_1 at h
  refine AW.seq ?_
  refine AW.sregL [(0, none), (1, none), (2, none)] (by kernel_rfl) ?_
  refine l_det (some 12) (.one (.d (.int .i64 v3498)), []) (by kernel_rfl) ?_
  refine l_det (some 13) (.one (.d (.int .i64 b_88c66)), []) (by kernel_rfl) ?_
  refine l_det (some 14) (.one (.d (.bool (decide (v3498 < b_88c66)))), []) (by kernel_rfl) ?_
  refine l_nil ?_
  refine AW.cond' (by kernel_rfl) h (fun h => ?_) (fun h => ?_)
  · refine AW.skip ?_
    refine q_fall ?_
    refine AW.seq ?_
    refine AW.blk ?_
    refine AW.sregL [(0, none), (1, none)] (by kernel_rfl) ?_
    refine l_det (some 17) (.one (.d (.int .i64 v3498)), []) (by kernel_rfl) ?_
    refine l_det (some 9) (.one (.d (.int .i64 v3498)), []) (by kernel_rfl) ?_
    refine l_nil ?_
    refine AW.blk ?_
    refine AW.loopL (S := ((List TLine) × Int)) (fun s => (fun (v3769 : List TLine) (v3770 : Int) => [(0, .one (.view 900000 0 0 ((List.map TLine.enc v3769).length))), (1, .one (.d (.int .i64 a_88c66))), (2, .one (.d (.int .i64 b_88c66))), (3, .one (.d (.fn 66 []))), (8, .one (.d (.int .i64 v3498))), (9, .one (.d (.int .i64 v3770)))]) s.1 s.2) (fun s => (fun (v3769 : List TLine) (v3770 : Int) => [(900000, .pure true 41 7 (List.map TLine.enc v3769))]) s.1 s.2) (fun (s : ((List TLine) × Int)) N3797 => L88c66_2 a_88c66 N3661 v3498 s.1 s.2 N3797) (N := fun s => LoopW (fun (s : ((List TLine) × Int)) N3797 => L88c66_2 a_88c66 N3661 v3498 s.1 s.2 N3797) s) (Lab.mk (v3497, v3498) [(900000, some 900000)] (by kernel_rfl) (by kernel_rfl) (by kernel_rfl) (by kernel_rfl) h) (fun _ h => h) ?_
    rintro ⟨v3769, v3770⟩ N3797 h
    have h : L88c66_2 a_88c66 N3661 v3498 v3769 v3770 N3797 := h
    unfold L88c66_2 at h
    refine AW.seq ?_
    refine AW.seqL (S := Bool) (fun s => (fun (v3814 : Bool) => [(0, .one (.view 900000 0 0 ((List.map TLine.enc v3769).length))), (1, .one (.d (.int .i64 a_88c66))), (2, .one (.d (.int .i64 b_88c66))), (3, .one (.d (.fn 66 []))), (8, .one (.d (.int .i64 v3498))), (9, .one (.d (.int .i64 v3770))), (34, .one (.d (.bool v3814)))]) s) (fun s => (fun (v3814 : Bool) => [(900000, .pure true 41 7 (List.map TLine.enc v3769))]) s) (fun s : Bool => J88c66_3 v3769 v3770 N3797 N3661 v3498 s) ?_ ?_
    · refine AW.regdL follows_mixed [[], [], [0, 1], [0, 1, 2], [0, 1, 2, 3], [0, 1, 2, 3], [0, 1, 2, 3], [0, 1, 2, 3, 5, 6], [0, 1, 2, 3, 5, 6, 7], [0, 1, 2, 3], [0, 1, 2, 3], [0, 1, 2, 3, 10], [0, 1, 2, 3, 9, 10, 11], [0, 1, 2, 3, 9, 10, 11, 12], [0, 1, 2, 3, 4, 5, 6, 7, 8, 9, 10, 11, 12, 13], [0, 1, 2, 3, 4, 5, 6, 7, 8, 9, 10, 11, 12, 13, 14], [0, 1, 2, 3, 4, 5, 6, 7, 8, 9, 10, 11, 12, 13, 14, 15]] [(0, none), (1, none), (2, none), (3, none), (4, none), (5, none), (6, none), (7, none), (8, none), (9, none), (10, none), (11, none), (12, none), (13, none), (14, none), (15, none), (16, none)] (by kernel_rfl) ?_
      refine l_det (some 18) (.one (.d (.int .i64 v3770)), []) (by kernel_rfl) ?_
      refine l_det (some 19) (.one (.d (.int .i64 a_88c66)), []) (by kernel_rfl) ?_
      refine l_det (some 20) (.one (.d (.bool (decide (v3770 > a_88c66)))), []) (by kernel_rfl) ?_
      refine l_det (some 21) (.one (.d (.bool (decide (v3770 > a_88c66)))), []) (by kernel_rfl) ?_
      refine l_split (s := 21) (by kernel_rfl) h (fun h => ?_) (fun h => ?_)
      · refine l_det (some 22) (.one (.d (.fn 66 [])), []) (by kernel_rfl) ?_
        refine l_det (some 23) (.one (.view 900000 0 0 ((List.map TLine.enc v3769).length)), []) (by kernel_rfl) ?_
        refine l_det (some 24) (.one (.d (.int .i64 v3770)), []) (by kernel_rfl) ?_
        obtain ⟨h824, x3821, h825, h⟩ := h
        refine l_spec (some 25) (.iad 7 (.t 23) (.t 24)) (.one (.ref 900000 0 v3770.toNat 0), []) (by kernel_rfl) (detA_none (d_iad_v (enc := TLine.enc) (k := .i64) (E := 41) (l := true) (ys := dmm (List.map TLine.enc v3769)) v3769 x3821 (by kernel_rfl) (by kernel_rfl) (by kernel_rfl) (by kernel_rfl) h824 h825)) ?_
        refine l_spec (some 26) (.ld true 7 (.t 25)) (.agg [.d (.str x3821.group.service), .d (.str x3821.group.version), .d (.str x3821.group.operation), .d (.int .i64 x3821.total.spans), .d (.int .i64 x3821.total.errors), .d (.int .i64 x3821.total.duration), .d (.int .i64 x3821.total.traces)], []) (by kernel_rfl) (detA_none (d_ld_row (enc := TLine.enc) (o := 900000) (g := 0) (i := v3770.toNat) (off := 0) (E := 41) (sz := 7) (l := true) v3769 x3821 (by kernel_rfl) (by kernel_rfl) (by kernel_rfl) h825 (by kernel_rfl))) ?_
        refine l_det (some 27) (.one (.view 900000 0 0 ((List.map TLine.enc v3769).length)), []) (by kernel_rfl) ?_
        refine l_det (some 28) (.one (.d (.int .i64 v3770)), []) (by kernel_rfl) ?_
        refine l_det (some 29) (.one (.d (.int .i64 (w64 (v3770 - 1)))), []) (by kernel_rfl) ?_
        obtain ⟨h826, x3822, h827, h⟩ := h
        refine l_spec (some 30) (.iad 7 (.t 27) (.t 29)) (.one (.ref 900000 0 ((w64 (v3770 - 1)).toNat) 0), []) (by kernel_rfl) (detA_none (d_iad_v (enc := TLine.enc) (k := .i64) (E := 41) (l := true) (ys := dmm (List.map TLine.enc v3769)) v3769 x3822 (by kernel_rfl) (by kernel_rfl) (by kernel_rfl) (by kernel_rfl) h826 h827)) ?_
        refine l_spec (some 31) (.ld true 7 (.t 30)) (.agg [.d (.str x3822.group.service), .d (.str x3822.group.version), .d (.str x3822.group.operation), .d (.int .i64 x3822.total.spans), .d (.int .i64 x3822.total.errors), .d (.int .i64 x3822.total.duration), .d (.int .i64 x3822.total.traces)], []) (by kernel_rfl) (detA_none (d_ld_row (enc := TLine.enc) (o := 900000) (g := 0) (i := ((w64 (v3770 - 1)).toNat)) (off := 0) (E := 41) (sz := 7) (l := true) v3769 x3822 (by kernel_rfl) (by kernel_rfl) (by kernel_rfl) h827 (by kernel_rfl))) ?_
        refine l_call ok66 en66 (some 32) [.agg [.d (.str x3821.group.service), .d (.str x3821.group.version), .d (.str x3821.group.operation), .d (.int .i64 x3821.total.spans), .d (.int .i64 x3821.total.errors), .d (.int .i64 x3821.total.duration), .d (.int .i64 x3821.total.traces)], .agg [.d (.str x3822.group.service), .d (.str x3822.group.version), .d (.str x3822.group.operation), .d (.int .i64 x3822.total.spans), .d (.int .i64 x3822.total.errors), .d (.int .i64 x3822.total.duration), .d (.int .i64 x3822.total.traces)]] [false, false] [.agg (List.map RC.d [.str x3821.group.service, .str x3821.group.version, .str x3821.group.operation, .int .i64 x3821.total.spans, .int .i64 x3821.total.errors, .int .i64 x3821.total.duration, .int .i64 x3821.total.traces]), .agg (List.map RC.d [.str x3822.group.service, .str x3822.group.version, .str x3822.group.operation, .int .i64 x3822.total.spans, .int .i64 x3822.total.errors, .int .i64 x3822.total.duration, .int .i64 x3822.total.traces])] [] (by kernel_rfl) ⟨by kernel_rfl, by kernel_rfl⟩ (by kernel_rfl) (by kernel_rfl) (by kernel_rfl) (cl66 x3821 x3822 h) ?_
        rintro hR _ _ ⟨r3823, rfl, rfl, h⟩
        refine ⟨false, (.one (.d (.int .i64 r3823)), []), (fun hz => (by cases hz)), (ret_R hR (by kernel_rfl)), ?_⟩
        refine l_det (some 33) (.one (.d (.bool (decide (r3823 < 0)))), []) (by kernel_rfl) ?_
        refine l_det (some 34) (.one (.d (.bool (decide (r3823 < 0)))), []) (by kernel_rfl) ?_
        refine l_nil ?_
        refine q_fall ?_
        exact Lab.mk (decide (r3823 < 0)) [(900000, some 900000)] (by kernel_rfl) (by kernel_rfl) (by kernel_rfl) (by kernel_rfl) h
      · refine l_det (some 22) (.tup [], []) (by kernel_rfl) ?_
        refine l_det (some 23) (.tup [], []) (by kernel_rfl) ?_
        refine l_det (some 24) (.tup [], []) (by kernel_rfl) ?_
        refine l_det (some 25) (.tup [], []) (by kernel_rfl) ?_
        refine l_det (some 26) (.tup [], []) (by kernel_rfl) ?_
        refine l_det (some 27) (.tup [], []) (by kernel_rfl) ?_
        refine l_det (some 28) (.tup [], []) (by kernel_rfl) ?_
        refine l_det (some 29) (.tup [], []) (by kernel_rfl) ?_
        refine l_det (some 30) (.tup [], []) (by kernel_rfl) ?_
        refine l_det (some 31) (.tup [], []) (by kernel_rfl) ?_
        refine l_skip (some 32) (by kernel_rfl) (by kernel_rfl) (by kernel_rfl) ?_
        refine l_det (some 33) (.tup [], []) (by kernel_rfl) ?_
        refine l_det (some 34) (.one (.d (.bool false)), []) (by kernel_rfl) ?_
        refine l_nil ?_
        refine q_fall ?_
        exact Lab.mk false [(900000, some 900000)] (by kernel_rfl) (by kernel_rfl) (by kernel_rfl) (by kernel_rfl) h
    · rintro v3814 h
      have h : J88c66_3 v3769 v3770 N3797 N3661 v3498 v3814 := h
      unfold J88c66_3 at h
      refine AW.cond' (by kernel_rfl) h (fun h => ?_) (fun h => ?_)
      · refine AW.skip ?_
        refine q_fall ?_
        refine AW.seq ?_
        refine AW.blk ?_
        refine AW.regdL follows_mixed [[], [], [], [], [3], [], [], [6], [5, 6, 7], [5, 6, 7, 8], [], [], [10, 11], [10, 11, 12], [0, 1, 5, 6, 7, 8, 9, 10, 11, 12, 13], [0, 1, 5, 6, 7, 8, 9, 10, 11, 12, 13, 14], [0, 1, 2, 3, 4, 5, 6, 7, 8, 9, 10, 11, 12, 13, 14, 15], [0, 1, 2, 3, 4, 5, 6, 7, 8, 9, 10, 11, 12, 13, 14, 15, 16]] [(0, none), (1, none), (2, none), (3, none), (4, none), (5, none), (6, none), (7, none), (8, none), (9, none), (10, none), (11, none), (12, none), (13, none), (14, none), (15, none), (16, none), (17, none)] (by kernel_rfl) ?_
        refine l_det (some 37) (.one (.view 900000 0 0 ((List.map TLine.enc v3769).length)), []) (by kernel_rfl) ?_
        refine l_det (some 38) (.one (.d (.int .i64 v3770)), []) (by kernel_rfl) ?_
        refine l_det (some 39) (.one (.view 900000 0 0 ((List.map TLine.enc v3769).length)), []) (by kernel_rfl) ?_
        refine l_det (some 40) (.one (.d (.int .i64 v3770)), []) (by kernel_rfl) ?_
        refine l_det (some 41) (.one (.d (.int .i64 (w64 (v3770 - 1)))), []) (by kernel_rfl) ?_
        refine l_det (some 42) (.one (.view 900000 0 0 ((List.map TLine.enc v3769).length)), []) (by kernel_rfl) ?_
        refine l_det (some 43) (.one (.d (.int .i64 v3770)), []) (by kernel_rfl) ?_
        refine l_det (some 44) (.one (.d (.int .i64 (w64 (v3770 - 1)))), []) (by kernel_rfl) ?_
        obtain ⟨h816, x3818, h817, h⟩ := h
        refine l_spec (some 45) (.iad 7 (.t 42) (.t 44)) (.one (.ref 900000 0 ((w64 (v3770 - 1)).toNat) 0), []) (by kernel_rfl) (detA_none (d_iad_v (enc := TLine.enc) (k := .i64) (E := 41) (l := true) (ys := dmm (List.map TLine.enc v3769)) v3769 x3818 (by kernel_rfl) (by kernel_rfl) (by kernel_rfl) (by kernel_rfl) h816 h817)) ?_
        refine l_spec (some 46) (.ld true 7 (.t 45)) (.agg [.d (.str x3818.group.service), .d (.str x3818.group.version), .d (.str x3818.group.operation), .d (.int .i64 x3818.total.spans), .d (.int .i64 x3818.total.errors), .d (.int .i64 x3818.total.duration), .d (.int .i64 x3818.total.traces)], []) (by kernel_rfl) (detA_none (d_ld_row (enc := TLine.enc) (o := 900000) (g := 0) (i := ((w64 (v3770 - 1)).toNat)) (off := 0) (E := 41) (sz := 7) (l := true) v3769 x3818 (by kernel_rfl) (by kernel_rfl) (by kernel_rfl) h817 (by kernel_rfl))) ?_
        refine l_det (some 47) (.one (.view 900000 0 0 ((List.map TLine.enc v3769).length)), []) (by kernel_rfl) ?_
        refine l_det (some 48) (.one (.d (.int .i64 v3770)), []) (by kernel_rfl) ?_
        obtain ⟨h818, x3819, h819, h⟩ := h
        refine l_spec (some 49) (.iad 7 (.t 47) (.t 48)) (.one (.ref 900000 0 v3770.toNat 0), []) (by kernel_rfl) (detA_none (d_iad_v (enc := TLine.enc) (k := .i64) (E := 41) (l := true) (ys := dmm (List.map TLine.enc v3769)) v3769 x3819 (by kernel_rfl) (by kernel_rfl) (by kernel_rfl) (by kernel_rfl) h818 h819)) ?_
        refine l_spec (some 50) (.ld true 7 (.t 49)) (.agg [.d (.str x3819.group.service), .d (.str x3819.group.version), .d (.str x3819.group.operation), .d (.int .i64 x3819.total.spans), .d (.int .i64 x3819.total.errors), .d (.int .i64 x3819.total.duration), .d (.int .i64 x3819.total.traces)], []) (by kernel_rfl) (detA_none (d_ld_row (enc := TLine.enc) (o := 900000) (g := 0) (i := v3770.toNat) (off := 0) (E := 41) (sz := 7) (l := true) v3769 x3819 (by kernel_rfl) (by kernel_rfl) (by kernel_rfl) h819 (by kernel_rfl))) ?_
        refine l_spec (some 51) (.iad 7 (.t 37) (.t 38)) (.one (.ref 900000 0 v3770.toNat 0), []) (by kernel_rfl) (detA_none (d_iad_v (enc := TLine.enc) (k := .i64) (E := 41) (l := true) (ys := dmm (List.map TLine.enc v3769)) v3769 x3819 (by kernel_rfl) (by kernel_rfl) (by kernel_rfl) (by kernel_rfl) h818 h819)) ?_
        have h820 := set_get x3818 h819
        refine l_spec none (.st 7 (.t 51) (.t 46)) (.tup [], [(900000, 0, .row true 41 7 (dmm (List.map TLine.enc (List.set v3769 v3770.toNat x3818))))]) (by kernel_rfl) (detA_none (d_st_row (enc := TLine.enc) (i := v3770.toNat) (off := 0) (vs := [.d (.str x3818.group.service), .d (.str x3818.group.version), .d (.str x3818.group.operation), .d (.int .i64 x3818.total.spans), .d (.int .i64 x3818.total.errors), .d (.int .i64 x3818.total.duration), .d (.int .i64 x3818.total.traces)]) v3769 x3819 x3818 (by kernel_rfl) (by kernel_rfl) (by kernel_rfl) h819 (by kernel_rfl) (by kernel_rfl) (by kernel_rfl))) ?_
        refine l_renorm 0 (.one (.view 900000 0 0 ((List.map TLine.enc (List.set v3769 v3770.toNat x3818)).length))) (Eq.trans (b := .one (.view 900000 0 0 ((List.map TLine.enc v3769).length))) (by kernel_rfl) (by simp only [List.length_map, List.length_set, List.length_cons, List.length_nil])) ?_
        refine l_renorm 39 (.one (.view 900000 0 0 ((List.map TLine.enc (List.set v3769 v3770.toNat x3818)).length))) (Eq.trans (b := .one (.view 900000 0 0 ((List.map TLine.enc v3769).length))) (by kernel_rfl) (by simp only [List.length_map, List.length_set, List.length_cons, List.length_nil])) ?_
        obtain ⟨h821, x3820, h822, h⟩ := h
        refine l_spec (some 52) (.iad 7 (.t 39) (.t 41)) (.one (.ref 900000 0 ((w64 (v3770 - 1)).toNat) 0), []) (by kernel_rfl) (detA_none (d_iad_v (enc := TLine.enc) (k := .i64) (E := 41) (l := true) (ys := dmm (List.map TLine.enc (List.set v3769 v3770.toNat x3818))) (List.set v3769 v3770.toNat x3818) x3820 (by kernel_rfl) (by kernel_rfl) (by kernel_rfl) (by kernel_rfl) h821 h822)) ?_
        have h823 := set_get x3819 h822
        refine l_spec none (.st 7 (.t 52) (.t 50)) (.tup [], [(900000, 0, .row true 41 7 (dmm (List.map TLine.enc (List.set (List.set v3769 v3770.toNat x3818) ((w64 (v3770 - 1)).toNat) x3819))))]) (by kernel_rfl) (detA_none (d_st_row (enc := TLine.enc) (i := ((w64 (v3770 - 1)).toNat)) (off := 0) (vs := [.d (.str x3819.group.service), .d (.str x3819.group.version), .d (.str x3819.group.operation), .d (.int .i64 x3819.total.spans), .d (.int .i64 x3819.total.errors), .d (.int .i64 x3819.total.duration), .d (.int .i64 x3819.total.traces)]) (List.set v3769 v3770.toNat x3818) x3820 x3819 (by kernel_rfl) (by kernel_rfl) (by kernel_rfl) h822 (by kernel_rfl) (by kernel_rfl) (by kernel_rfl))) ?_
        refine l_renorm 0 (.one (.view 900000 0 0 ((List.map TLine.enc (List.set (List.set v3769 v3770.toNat x3818) ((w64 (v3770 - 1)).toNat) x3819)).length))) (Eq.trans (b := .one (.view 900000 0 0 ((List.map TLine.enc (List.set v3769 v3770.toNat x3818)).length))) (by kernel_rfl) (by simp only [List.length_map, List.length_set, List.length_cons, List.length_nil])) ?_
        refine l_nil ?_
        refine q_bfall ?_
        refine q_fall ?_
        refine AW.regL [(0, none), (1, none), (2, none)] (by kernel_rfl) ?_
        refine l_det (some 35) (.one (.d (.int .i64 v3770)), []) (by kernel_rfl) ?_
        refine l_det (some 36) (.one (.d (.int .i64 (w64 (v3770 - 1)))), []) (by kernel_rfl) ?_
        refine l_det (some 9) (.one (.d (.int .i64 (w64 (v3770 - 1)))), []) (by kernel_rfl) ?_
        refine l_nil ?_
        refine q_fall ?_
        exact Lab.mk ((List.set (List.set v3769 v3770.toNat x3818) ((w64 (v3770 - 1)).toNat) x3819), (w64 (v3770 - 1))) [(900000, some 900000)] (by kernel_rfl) (by kernel_rfl) (by kernel_rfl) (by kernel_rfl) h
      · refine AW.exit ?_
        refine q_exit ?_
        refine q_exit ?_
        refine q_bhere ?_
        refine q_bfall ?_
        refine q_fall ?_
        refine AW.regL [(0, none), (1, none), (2, none)] (by kernel_rfl) ?_
        refine l_det (some 15) (.one (.d (.int .i64 v3498)), []) (by kernel_rfl) ?_
        refine l_det (some 16) (.one (.d (.int .i64 (w64 (v3498 + 1)))), []) (by kernel_rfl) ?_
        refine l_det (some 8) (.one (.d (.int .i64 (w64 (v3498 + 1)))), []) (by kernel_rfl) ?_
        refine l_nil ?_
        refine q_fall ?_
        exact Lab.mk (v3769, (w64 (v3498 + 1))) [(900000, some 900000)] (by kernel_rfl) (by kernel_rfl) (by kernel_rfl) (by kernel_rfl) h
  · refine AW.exit ?_
    refine q_exit ?_
    refine q_exit ?_
    refine q_bhere ?_
    obtain ⟨h829, h⟩ := h
    exact q_end [] [] [] [List.map TLine.enc v3497] [] (by kernel_rfl) ⟨by kernel_rfl, by kernel_rfl⟩ (by kernel_rfl) (by kernel_rfl) (by kernel_rfl) (b_own (List.map TLine.enc v3497) rfl (by kernel_rfl) (by kernel_rfl) (by simp only [List.length_map]; exact h829)) (Eq.mp (by kernel_rfl) (hK v3497 h829 h)) (.inl rfl)
end Go.Proofs.Ytnpdeecoejabgaa
