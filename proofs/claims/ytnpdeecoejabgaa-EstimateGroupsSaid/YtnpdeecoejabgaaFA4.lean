/- Go functions: their shallow forms, and that they keep their contracts. Printed by a program of mine (gs.py). -/
import Derived.Test.YtnpdeecoejabgaaFA3
set_option maxRecDepth 100000
set_option linter.unusedVariables false
set_option linter.unusedSimpArgs false
namespace Go.Proofs.Ytnpdeecoejabgaa
open Go Go.RowKit

def r23_0 : List AR := [⟨some 4, .mov (.c .nils), [], none⟩]
def r23_1 : List AR := [⟨some 5, .mov (.c .nils), [], none⟩]
def r23_2 : List AR := [⟨some 6, .mov (.c (.int .i64 0)), [], none⟩]
def r23_3 : List AR := [⟨some 10, .mov (.t 6), [], none⟩,
  ⟨some 11, .mov (.t 0), [], none⟩,
  ⟨some 12, .lens (.t 11), [1], none⟩,
  ⟨some 13, .bin .lss (.t 10) (.t 12), [0, 2], none⟩]
def r23_4 : List AR := [⟨some 7, .mov (.c (.int .i64 0)), [], none⟩]
def r23_5 : List AR := [⟨some 16, .mov (.t 7), [], none⟩,
  ⟨some 17, .mov (.t 0), [], none⟩,
  ⟨some 18, .mov (.t 6), [], none⟩,
  ⟨some 19, .iad 3 (.t 17) (.t 18), [1, 2], none⟩,
  ⟨some 20, .fad (.t 19) 2, [3], none⟩,
  ⟨some 21, .ld false 1 (.t 20), [4], none⟩,
  ⟨some 22, .lens (.t 21), [5], none⟩,
  ⟨some 23, .bin .lss (.t 16) (.t 22), [0, 6], none⟩]
def r23_6 : List AR := [⟨some 26, .mov (.t 0), [], none⟩,
  ⟨some 27, .mov (.t 6), [], none⟩,
  ⟨some 28, .iad 3 (.t 26) (.t 27), [0, 1], none⟩,
  ⟨some 29, .fad (.t 28) 2, [2], none⟩,
  ⟨some 30, .ld false 1 (.t 29), [3], none⟩,
  ⟨some 31, .mov (.t 7), [], none⟩,
  ⟨some 32, .iad 14 (.t 30) (.t 31), [4, 5], none⟩,
  ⟨some 33, .ld true 14 (.t 32), [6], none⟩,
  ⟨some 34, .mov (.t 1), [], none⟩,
  ⟨some 35, .call 21 [.t 33, .t 34], [7, 8], none⟩,
  ⟨some 8, .alloc 39 true [.str ⟨#[]⟩, .str ⟨#[]⟩, .str ⟨#[]⟩], [], none⟩,
  ⟨none, .st 3 (.t 8) (.t 35), [10, 9, 9, 0, 1, 2, 3, 4, 5, 6, 7, 8, 9, 10], none⟩]
def r23_7 : List AR := [⟨some 36, .mov (.t 5), [], none⟩,
  ⟨some 37, .lens (.t 36), [0], none⟩,
  ⟨some 9, .mov (.t 37), [1, 0, 1], none⟩]
def r23_8 : List AR := [⟨some 38, .mov (.t 9), [], none⟩,
  ⟨some 39, .bin .gtr (.t 38) (.c (.int .i64 0)), [0], none⟩,
  ⟨some 40, .mov (.t 39), [1], none⟩,
  ⟨some 41, .ld true 3 (.t 8), [2], some (40, true)⟩,
  ⟨some 42, .mov (.t 5), [2], some (40, true)⟩,
  ⟨some 43, .mov (.t 9), [2], some (40, true)⟩,
  ⟨some 44, .bin .sub (.t 43) (.c (.int .i64 1)), [5, 2], some (40, true)⟩,
  ⟨some 45, .iad 7 (.t 42) (.t 44), [4, 6, 2], some (40, true)⟩,
  ⟨some 46, .fad (.t 45) 0, [7, 2], some (40, true)⟩,
  ⟨some 47, .ld true 3 (.t 46), [8, 2], some (40, true)⟩,
  ⟨some 48, .call 44 [.t 41, .t 47], [3, 9, 2, 2], some (40, true)⟩,
  ⟨some 49, .pick (.t 40) (.t 48) (.c (.bool false)), [2, 10], none⟩]
def r23_9 : List AR := [⟨some 50, .mov (.t 9), [], none⟩,
  ⟨some 51, .bin .sub (.t 50) (.c (.int .i64 1)), [0], none⟩,
  ⟨some 9, .mov (.t 51), [1, 0, 1], none⟩]
def r23_10 : List AR := [⟨some 52, .mov (.t 9), [], none⟩,
  ⟨some 53, .bin .gtr (.t 52) (.c (.int .i64 0)), [0], none⟩,
  ⟨some 54, .mov (.t 53), [1], none⟩,
  ⟨some 55, .mov (.t 5), [2], some (54, true)⟩,
  ⟨some 56, .mov (.t 9), [2], some (54, true)⟩,
  ⟨some 57, .bin .sub (.t 56) (.c (.int .i64 1)), [4, 2], some (54, true)⟩,
  ⟨some 58, .iad 7 (.t 55) (.t 57), [3, 5, 2], some (54, true)⟩,
  ⟨some 59, .fad (.t 58) 0, [6, 2], some (54, true)⟩,
  ⟨some 60, .ld true 3 (.t 59), [7, 2], some (54, true)⟩,
  ⟨some 61, .ld true 3 (.t 8), [2], some (54, true)⟩,
  ⟨some 62, .eqs false [.s, .s, .s] (.t 60) (.t 61), [8, 9, 2], some (54, true)⟩,
  ⟨some 63, .pick (.t 54) (.t 62) (.c (.bool false)), [2, 10], none⟩]
def r23_11 : List AR := [⟨some 64, .bsl 41 7 0 [.str ⟨#[]⟩, .str ⟨#[]⟩, .str ⟨#[]⟩, .int .i64 0, .int .i64 0, .int .i64 0, .int .i64 0] [], [], none⟩,
  ⟨some 65, .mov (.t 5), [], none⟩,
  ⟨some 66, .mov (.t 9), [], none⟩,
  ⟨some 67, .slc 7 (.t 65) none (some (.t 66)) none, [1, 2], none⟩,
  ⟨some 68, .app 41 7 80 [.str ⟨#[]⟩, .str ⟨#[]⟩, .str ⟨#[]⟩, .int .i64 0, .int .i64 0, .int .i64 0, .int .i64 0] (.t 64) (.t 67), [0, 3], none⟩,
  ⟨some 69, .ld true 3 (.t 8), [], none⟩,
  ⟨some 70, .mov (.t 0), [], none⟩,
  ⟨some 71, .ld true 3 (.t 8), [], none⟩,
  ⟨some 72, .mov (.t 1), [], none⟩,
  ⟨some 73, .call 45 [.t 70, .t 71, .t 72], [6, 7, 8, 4], none⟩,
  ⟨some 74, .bld [.str ⟨#[]⟩, .str ⟨#[]⟩, .str ⟨#[]⟩, .int .i64 0, .int .i64 0, .int .i64 0, .int .i64 0] [(0, 3, .t 69), (3, 4, .t 73)], [5, 9], none⟩,
  ⟨some 75, .bsl 41 7 1 [.str ⟨#[]⟩, .str ⟨#[]⟩, .str ⟨#[]⟩, .int .i64 0, .int .i64 0, .int .i64 0, .int .i64 0] [(0, .t 74)], [10], none⟩,
  ⟨some 76, .app 41 7 80 [.str ⟨#[]⟩, .str ⟨#[]⟩, .str ⟨#[]⟩, .int .i64 0, .int .i64 0, .int .i64 0, .int .i64 0] (.t 68) (.t 75), [4, 11, 9], none⟩,
  ⟨some 77, .mov (.t 5), [], none⟩,
  ⟨some 78, .mov (.t 9), [], none⟩,
  ⟨some 79, .slc 7 (.t 77) (some (.t 78)) none none, [13, 14], none⟩,
  ⟨some 80, .app 41 7 80 [.str ⟨#[]⟩, .str ⟨#[]⟩, .str ⟨#[]⟩, .int .i64 0, .int .i64 0, .int .i64 0, .int .i64 0] (.t 76) (.t 79), [12, 15, 12], none⟩,
  ⟨some 5, .mov (.t 80), [16, 16, 0, 1, 2, 3, 4, 5, 6, 7, 8, 9, 10, 11, 12, 13, 14, 15, 16], none⟩]
def r23_12 : List AR := [⟨some 24, .mov (.t 7), [], none⟩,
  ⟨some 25, .bin .add (.t 24) (.c (.int .i64 1)), [0], none⟩,
  ⟨some 7, .mov (.t 25), [1, 0, 1], none⟩]
def r23_13 : List AR := [⟨some 14, .mov (.t 6), [], none⟩,
  ⟨some 15, .bin .add (.t 14) (.c (.int .i64 1)), [0], none⟩,
  ⟨some 6, .mov (.t 15), [1, 0, 1], none⟩]
def r23_14 : List AR := [⟨some 81, .mov (.t 5), [], none⟩,
  ⟨some 4, .mov (.t 81), [0, 0], none⟩]
def c23 : ACode := .seq (.reg r23_0 false) (.seq (.reg r23_1 false) (.seq (.seq (.reg r23_2 false) (.blk 0 (.loop (.seq (.seq (.reg r23_3 false) (.cond (.t 13) (.skip) (.exit 0))) (.seq (.blk 1 (.seq (.reg r23_4 false) (.blk 2 (.loop (.seq (.seq (.reg r23_5 false) (.cond (.t 23) (.skip) (.exit 2))) (.seq (.blk 3 (.seq (.reg r23_6 false) (.seq (.reg r23_7 false) (.seq (.blk 4 (.loop (.seq (.seq (.reg r23_8 true) (.cond (.t 49) (.skip) (.exit 4))) (.blk 5 (.reg r23_9 false))))) (.seq (.seq (.reg r23_10 true) (.cond (.t 63) (.exit 3) (.skip))) (.reg r23_11 true)))))) (.reg r23_12 false))))))) (.reg r23_13 false)))))) (.seq (.reg r23_14 false) (.ret))))
theorem body23 : Try.f23.body.map (comp Try.prog 82) = some c23 := by kernel_rfl
theorem res23 : allSome (Try.f23.results.toList.map (compRes Try.prog)) = some [.s 4] := by kernel_rfl
theorem cok23 {S : FSpec} (h : ∀ args K, S args K → args.all argOk = true ∧ args.length ≤ 82 ∧ AW Try.prog 82 (some ownP) c23 (initS args) (retPost [.s 4] args K)) : COK Try.prog 23 S := of_body Try.func23 Try.ntmps23 body23 res23 h

def J23_3 (N17368 : ((List TLine) × Int) → Prop) (v17059 : Int) (v17575 : List TLine) : Prop :=
  N17368 (v17575, (w64 (v17059 + 1)))

def J23_6 (N17368 : ((List TLine) × Int) → Prop) (v17059 : Int) (v17058 : List TLine) (v17638 : Int) (l_23 : List TTrace) (r17579 : TGroup) (level_23 : Int) (v17672 : Bool) : Prop :=
  Cond v17672 (J23_3 N17368 v17059 v17058) (0 ≤ v17638 ∧ v17638 ≤ (v17058.length : Int) ∧ (0 ≤ v17638 ∧ v17638 ≤ (v17058.length : Int) ∧ (Fits (([] ++ (List.take (v17638.toNat - 0) (List.drop 0 v17058))).length * 80) (W45 l_23 r17579 level_23 fun r17673 => Fits ((([] ++ (List.take (v17638.toNat - 0) (List.drop 0 v17058))) ++ [(TLine.mk r17579 r17673)]).length * 80) (Fits (((([] ++ (List.take (v17638.toNat - 0) (List.drop 0 v17058))) ++ [(TLine.mk r17579 r17673)]) ++ (List.take (v17058.length - v17638.toNat) (List.drop v17638.toNat v17058))).length * 80) (J23_3 N17368 v17059 ((([] ++ (List.take (v17638.toNat - 0) (List.drop 0 v17058))) ++ [(TLine.mk r17579 r17673)]) ++ (List.take (v17058.length - v17638.toNat) (List.drop v17638.toNat v17058)))))))))

def J23_5 (N17653 : Int → Prop) (v17638 : Int) (v17058 : List TLine) (N17368 : ((List TLine) × Int) → Prop) (v17059 : Int) (l_23 : List TTrace) (r17579 : TGroup) (level_23 : Int) (v17665 : Bool) : Prop :=
  Cond v17665 (N17653 (w64 (v17638 - 1))) (Cond (decide (v17638 > 0)) (Idx v17058 (w64 (v17638 - 1)) fun x17674 => J23_6 N17368 v17059 v17058 v17638 l_23 r17579 level_23 (decide (x17674.group.service = r17579.service) && (decide (x17674.group.version = r17579.version) && (decide (x17674.group.operation = r17579.operation) && true)))) (J23_6 N17368 v17059 v17058 v17638 l_23 r17579 level_23 false))

def L23_4 (v17058 : List TLine) (r17579 : TGroup) (N17368 : ((List TLine) × Int) → Prop) (v17059 : Int) (l_23 : List TTrace) (level_23 : Int) (v17638 : Int) (N17653 : Int → Prop) : Prop :=
  Cond (decide (v17638 > 0)) (Idx v17058 (w64 (v17638 - 1)) fun x17675 => W44 r17579 x17675.group fun r17676 => J23_5 N17653 v17638 v17058 N17368 v17059 l_23 r17579 level_23 r17676) (J23_5 N17653 v17638 v17058 N17368 v17059 l_23 r17579 level_23 false)

def L23_2 (l_23 : List TTrace) (v13967 : Int) (level_23 : Int) (N15822 : ((List TLine) × Int) → Prop) (v17058 : List TLine) (v17059 : Int) (N17368 : ((List TLine) × Int) → Prop) : Prop :=
  Idx l_23 v13967 fun x17372 => Cond (decide (v17059 < (x17372.spans.length : Int))) (Idx x17372.spans v17059 fun x17578 => W21 x17578 level_23 fun r17579 => LoopW (fun (s : Int) N17653 => L23_4 v17058 r17579 N17368 v17059 l_23 level_23 s N17653) (v17058.length : Int)) (N15822 (v17058, (w64 (v13967 + 1))))

def L23_1 (l_23 : List TTrace) (level_23 : Int) (K : (List TLine) → Prop) (v13966 : List TLine) (v13967 : Int) (N15822 : ((List TLine) × Int) → Prop) : Prop :=
  Cond (decide (v13967 < (l_23.length : Int))) (LoopW (fun (s : ((List TLine) × Int)) N17368 => L23_2 l_23 v13967 level_23 N15822 s.1 s.2 N17368) (v13966, 0)) (K v13966)

/-- sleuth/sleuthlaw25.by -/
def W23 (l_23 : List TTrace) (level_23 : Int) (K : (List TLine) → Prop) : Prop :=
  LoopW (fun (s : ((List TLine) × Int)) N15822 => L23_1 l_23 level_23 K s.1 s.2 N15822) ([], 0)

def S23 : FSpec := fun args K => ∃ (l_23 : List TTrace), ∃ (level_23 : Int), ∃ (Kr : (List TLine) → Prop), args = [.one (.d (.sl (List.map TTrace.enc l_23))), .one (.d (.int .i64 level_23))] ∧ W23 l_23 level_23 Kr ∧ ∀ r, Kr r → K (.one (.own 41 7 (List.map TLine.enc r))) []

theorem en23 : enters Try.prog 23 = true := by unfold enters; rw [Try.func23]; rfl
theorem cl23 (l_23 : List TTrace) (level_23 : Int) {Kr : (List TLine) → Prop} (h : W23 l_23 level_23 Kr) : S23 [.one (.d (.sl (List.map TTrace.enc l_23))), .one (.d (.int .i64 level_23))] (fun rv rows => ∃ r, rv = (.one (.own 41 7 (List.map TLine.enc r))) ∧ rows = [] ∧ Kr r) := ⟨l_23, level_23, Kr, rfl, h, fun r hr => ⟨r, rfl, rfl, hr⟩⟩

theorem ok23 : COK Try.prog 23 S23 := by
  refine cok23 fun args K0 hS => ?_
  obtain ⟨l_23, level_23, K, rfl, h, hK⟩ := hS
  refine ⟨by kernel_rfl, by simp, ?_⟩
  unfold W23 at h
  refine AW.sregL [(0, none)] (by kernel_rfl) ?_
  refine l_det (some 4) (.one (.nils), []) (by kernel_rfl) ?_
  refine l_nil ?_
  refine AW.sregL [(0, none)] (by kernel_rfl) ?_
  refine l_det (some 5) (.one (.nils), []) (by kernel_rfl) ?_
  refine l_nil ?_
  refine AW.seq ?_
  refine AW.sregL [(0, none)] (by kernel_rfl) ?_
  refine l_det (some 6) (.one (.d (.int .i64 0)), []) (by kernel_rfl) ?_
  refine l_nil ?_
  refine AW.blk ?_
  refine AW.loopL (S := ((List TLine) × Int)) (fun s => (fun (v13966 : List TLine) (v13967 : Int) => [(0, .one (.d (.sl (List.map TTrace.enc l_23)))), (1, .one (.d (.int .i64 level_23))), (5, .one (.view 200001 0 0 ((List.map TLine.enc v13966).length))), (6, .one (.d (.int .i64 v13967)))]) s.1 s.2) (fun s => (fun (v13966 : List TLine) (v13967 : Int) => [(200001, .pure true 41 7 (List.map TLine.enc v13966))]) s.1 s.2) (fun (s : ((List TLine) × Int)) N15822 => L23_1 l_23 level_23 K s.1 s.2 N15822) (N := fun s => LoopW (fun (s : ((List TLine) × Int)) N15822 => L23_1 l_23 level_23 K s.1 s.2 N15822) s) (Lab.mk ([], 0) [(200001, none)] (by kernel_rfl) (by kernel_rfl) (by kernel_rfl) (by kernel_rfl) h) (fun _ h => h) ?_
  rintro ⟨v13966, v13967⟩ N15822 h
  have h : L23_1 l_23 level_23 K v13966 v13967 N15822 := h
  unfold L23_1 at h
  refine AW.seq ?_
  refine AW.sregL [(0, none), (1, none), (2, none), (3, none)] (by kernel_rfl) ?_
  refine l_det (some 10) (.one (.d (.int .i64 v13967)), []) (by kernel_rfl) ?_
  refine l_det (some 11) (.one (.d (.sl (List.map TTrace.enc l_23))), []) (by kernel_rfl) ?_
  refine l_spec (some 12) (.lens (.t 11)) (.one (.d (.int .i64 (l_23.length : Int))), []) (by kernel_rfl) (detA_none (d_lens_sl (enc := TTrace.enc) l_23 (by kernel_rfl))) ?_
  refine l_det (some 13) (.one (.d (.bool (decide (v13967 < (l_23.length : Int))))), []) (by kernel_rfl) ?_
  refine l_nil ?_
  refine AW.cond' (by kernel_rfl) h (fun h => ?_) (fun h => ?_)
  · refine AW.skip ?_
    refine q_fall ?_
    refine AW.seq ?_
    refine AW.blk ?_
    refine AW.sregL [(0, none)] (by kernel_rfl) ?_
    refine l_det (some 7) (.one (.d (.int .i64 0)), []) (by kernel_rfl) ?_
    refine l_nil ?_
    refine AW.blk ?_
    refine AW.loopL (S := ((List TLine) × Int)) (fun s => (fun (v17058 : List TLine) (v17059 : Int) => [(0, .one (.d (.sl (List.map TTrace.enc l_23)))), (1, .one (.d (.int .i64 level_23))), (5, .one (.view 200001 0 0 ((List.map TLine.enc v17058).length))), (6, .one (.d (.int .i64 v13967))), (7, .one (.d (.int .i64 v17059)))]) s.1 s.2) (fun s => (fun (v17058 : List TLine) (v17059 : Int) => [(200001, .pure true 41 7 (List.map TLine.enc v17058))]) s.1 s.2) (fun (s : ((List TLine) × Int)) N17368 => L23_2 l_23 v13967 level_23 N15822 s.1 s.2 N17368) (N := fun s => LoopW (fun (s : ((List TLine) × Int)) N17368 => L23_2 l_23 v13967 level_23 N15822 s.1 s.2 N17368) s) (Lab.mk (v13966, 0) [(200001, some 200001)] (by kernel_rfl) (by kernel_rfl) (by kernel_rfl) (by kernel_rfl) h) (fun _ h => h) ?_
    rintro ⟨v17058, v17059⟩ N17368 h
    have h : L23_2 l_23 v13967 level_23 N15822 v17058 v17059 N17368 := h
    unfold L23_2 at h
    refine AW.seq ?_
    refine AW.sregL [(0, none), (1, none), (2, none), (3, none), (4, none), (5, none), (6, none), (7, none)] (by kernel_rfl) ?_
    refine l_det (some 16) (.one (.d (.int .i64 v17059)), []) (by kernel_rfl) ?_
    refine l_det (some 17) (.one (.d (.sl (List.map TTrace.enc l_23))), []) (by kernel_rfl) ?_
    refine l_det (some 18) (.one (.d (.int .i64 v13967)), []) (by kernel_rfl) ?_
    obtain ⟨h13063, x17372, h13064, h⟩ := h
    refine l_spec (some 19) (.iad 3 (.t 17) (.t 18)) (.one (.d (.ptr [.int .i64 x17372.id, .int .i64 x17372.weight, .sl (List.map TSpan.enc x17372.spans)])), []) (by kernel_rfl) (detA_none (d_iad_sl (enc := TTrace.enc) (k := .i64) l_23 x17372 (by kernel_rfl) (by kernel_rfl) h13063 h13064 rfl)) ?_
    refine l_det (some 20) (.one (.d (.ptr [.sl (List.map TSpan.enc x17372.spans)])), []) (by kernel_rfl) ?_
    refine l_det (some 21) (.one (.d (.sl (List.map TSpan.enc x17372.spans))), []) (by kernel_rfl) ?_
    refine l_spec (some 22) (.lens (.t 21)) (.one (.d (.int .i64 (x17372.spans.length : Int))), []) (by kernel_rfl) (detA_none (d_lens_sl (enc := TSpan.enc) x17372.spans (by kernel_rfl))) ?_
    refine l_det (some 23) (.one (.d (.bool (decide (v17059 < (x17372.spans.length : Int))))), []) (by kernel_rfl) ?_
    refine l_nil ?_
    refine AW.cond' (by kernel_rfl) h (fun h => ?_) (fun h => ?_)
    · refine AW.skip ?_
      refine q_fall ?_
      refine AW.seqL (S := (List TLine)) (fun s => (fun (v17575 : List TLine) => [(0, .one (.d (.sl (List.map TTrace.enc l_23)))), (1, .one (.d (.int .i64 level_23))), (5, .one (.view 200001 0 0 ((List.map TLine.enc v17575).length))), (6, .one (.d (.int .i64 v13967))), (7, .one (.d (.int .i64 v17059)))]) s) (fun s => (fun (v17575 : List TLine) => [(200001, .pure true 41 7 (List.map TLine.enc v17575))]) s) (fun s : (List TLine) => J23_3 N17368 v17059 s) ?_ ?_
      · refine AW.blk ?_
        refine AW.sregL [(0, none), (1, none), (2, none), (3, none), (4, none), (5, none), (6, none), (7, none), (8, none), (9, none), (10, none), (11, none)] (by kernel_rfl) ?_
        refine l_det (some 26) (.one (.d (.sl (List.map TTrace.enc l_23))), []) (by kernel_rfl) ?_
        refine l_det (some 27) (.one (.d (.int .i64 v13967)), []) (by kernel_rfl) ?_
        refine l_spec (some 28) (.iad 3 (.t 26) (.t 27)) (.one (.d (.ptr [.int .i64 x17372.id, .int .i64 x17372.weight, .sl (List.map TSpan.enc x17372.spans)])), []) (by kernel_rfl) (detA_none (d_iad_sl (enc := TTrace.enc) (k := .i64) l_23 x17372 (by kernel_rfl) (by kernel_rfl) h13063 h13064 rfl)) ?_
        refine l_det (some 29) (.one (.d (.ptr [.sl (List.map TSpan.enc x17372.spans)])), []) (by kernel_rfl) ?_
        refine l_det (some 30) (.one (.d (.sl (List.map TSpan.enc x17372.spans))), []) (by kernel_rfl) ?_
        refine l_det (some 31) (.one (.d (.int .i64 v17059)), []) (by kernel_rfl) ?_
        obtain ⟨h13340, x17578, h13341, h⟩ := h
        refine l_spec (some 32) (.iad 14 (.t 30) (.t 31)) (.one (.d (.ptr [.int .i64 x17578.trace, .int .i64 x17578.id, .int .i64 x17578.parent, .int .i64 x17578.revision, .int .i64 x17578.clock, .int .i64 x17578.kind, .str x17578.service, .str x17578.version, .str x17578.operation, .int .i64 x17578.start, .int .i64 x17578.end_, .bool x17578.error, .sl (List.map TAttr.enc x17578.attrs), .sl (List.map TRef.enc x17578.links)])), []) (by kernel_rfl) (detA_none (d_iad_sl (enc := TSpan.enc) (k := .i64) x17372.spans x17578 (by kernel_rfl) (by kernel_rfl) h13340 h13341 rfl)) ?_
        refine l_det (some 33) (.agg [.d (.int .i64 x17578.trace), .d (.int .i64 x17578.id), .d (.int .i64 x17578.parent), .d (.int .i64 x17578.revision), .d (.int .i64 x17578.clock), .d (.int .i64 x17578.kind), .d (.str x17578.service), .d (.str x17578.version), .d (.str x17578.operation), .d (.int .i64 x17578.start), .d (.int .i64 x17578.end_), .d (.bool x17578.error), .d (.sl (List.map TAttr.enc x17578.attrs)), .d (.sl (List.map TRef.enc x17578.links))], []) (by kernel_rfl) ?_
        refine l_det (some 34) (.one (.d (.int .i64 level_23)), []) (by kernel_rfl) ?_
        refine l_call ok21 en21 (some 35) [.agg [.d (.int .i64 x17578.trace), .d (.int .i64 x17578.id), .d (.int .i64 x17578.parent), .d (.int .i64 x17578.revision), .d (.int .i64 x17578.clock), .d (.int .i64 x17578.kind), .d (.str x17578.service), .d (.str x17578.version), .d (.str x17578.operation), .d (.int .i64 x17578.start), .d (.int .i64 x17578.end_), .d (.bool x17578.error), .d (.sl (List.map TAttr.enc x17578.attrs)), .d (.sl (List.map TRef.enc x17578.links))], .one (.d (.int .i64 level_23))] [false, false] [.agg (List.map RC.d [.int .i64 x17578.trace, .int .i64 x17578.id, .int .i64 x17578.parent, .int .i64 x17578.revision, .int .i64 x17578.clock, .int .i64 x17578.kind, .str x17578.service, .str x17578.version, .str x17578.operation, .int .i64 x17578.start, .int .i64 x17578.end_, .bool x17578.error, .sl (List.map TAttr.enc x17578.attrs), .sl (List.map TRef.enc x17578.links)]), .one (.d (.int .i64 level_23))] [] (by kernel_rfl) ⟨by kernel_rfl, by kernel_rfl⟩ (by kernel_rfl) (by kernel_rfl) (by kernel_rfl) (cl21 x17578 level_23 h) ?_
        rintro hR _ _ ⟨r17579, rfl, rfl, h⟩
        refine ⟨false, (.agg [.d (.str r17579.service), .d (.str r17579.version), .d (.str r17579.operation)], []), (fun hz => (by cases hz)), (ret_R hR (by kernel_rfl)), ?_⟩
        refine l_det (some 8) (.one (.ref 8 1 0 0), [(8, 1, .row true 39 3 [[.d (.str (⟨#[]⟩ : ByteArray)), .d (.str (⟨#[]⟩ : ByteArray)), .d (.str (⟨#[]⟩ : ByteArray))]])]) (by kernel_rfl) ?_
        refine l_det none (.tup [], [(8, 1, .row true 39 3 [[.d (.str r17579.service), .d (.str r17579.version), .d (.str r17579.operation)]])]) (by kernel_rfl) ?_
        refine l_nil ?_
        refine AW.sregL [(0, none), (1, none), (2, none)] (by kernel_rfl) ?_
        refine l_det (some 36) (.one (.view 200001 0 0 ((List.map TLine.enc v17058).length)), []) (by kernel_rfl) ?_
        refine l_spec (some 37) (.lens (.t 36)) (.one (.d (.int .i64 (v17058.length : Int))), []) (by kernel_rfl) (detA_none (d_lens_v (enc := TLine.enc) (o := 200001) (g := 0) v17058 (by kernel_rfl))) ?_
        refine l_det (some 9) (.one (.d (.int .i64 (v17058.length : Int))), []) (by kernel_rfl) ?_
        refine l_nil ?_
        refine AW.seq ?_
        refine AW.blk ?_
        refine AW.loopL (S := Int) (fun s => (fun (v17638 : Int) => [(0, .one (.d (.sl (List.map TTrace.enc l_23)))), (1, .one (.d (.int .i64 level_23))), (5, .one (.view 200001 0 0 ((List.map TLine.enc v17058).length))), (6, .one (.d (.int .i64 v13967))), (7, .one (.d (.int .i64 v17059))), (8, .one (.ref 200002 0 0 0)), (9, .one (.d (.int .i64 v17638)))]) s) (fun s => (fun (v17638 : Int) => [(200001, .pure true 41 7 (List.map TLine.enc v17058)), (200002, .expl true 39 3 [[.d (.str r17579.service), .d (.str r17579.version), .d (.str r17579.operation)]])]) s) (fun (s : Int) N17653 => L23_4 v17058 r17579 N17368 v17059 l_23 level_23 s N17653) (N := fun s => LoopW (fun (s : Int) N17653 => L23_4 v17058 r17579 N17368 v17059 l_23 level_23 s N17653) s) (Lab.mk (v17058.length : Int) [(200001, some 200001), (200002, some 8)] (by kernel_rfl) (by kernel_rfl) (by kernel_rfl) (by kernel_rfl) h) (fun _ h => h) ?_
        rintro v17638 N17653 h
        have h : L23_4 v17058 r17579 N17368 v17059 l_23 level_23 v17638 N17653 := h
        unfold L23_4 at h
        refine AW.seq ?_
        refine AW.seqL (S := Bool) (fun s => (fun (v17665 : Bool) => [(0, .one (.d (.sl (List.map TTrace.enc l_23)))), (1, .one (.d (.int .i64 level_23))), (5, .one (.view 200001 0 0 ((List.map TLine.enc v17058).length))), (6, .one (.d (.int .i64 v13967))), (7, .one (.d (.int .i64 v17059))), (8, .one (.ref 200002 0 0 0)), (9, .one (.d (.int .i64 v17638))), (49, .one (.d (.bool v17665)))]) s) (fun s => (fun (v17665 : Bool) => [(200001, .pure true 41 7 (List.map TLine.enc v17058)), (200002, .expl true 39 3 [[.d (.str r17579.service), .d (.str r17579.version), .d (.str r17579.operation)]])]) s) (fun s : Bool => J23_5 N17653 v17638 v17058 N17368 v17059 l_23 r17579 level_23 s) ?_ ?_
        · refine AW.regdL follows_mixed [[], [0], [0, 1], [0, 1, 2], [0, 1, 2], [0, 1, 2], [0, 1, 2, 5], [0, 1, 2, 4, 5, 6], [0, 1, 2, 4, 5, 6, 7], [0, 1, 2, 4, 5, 6, 7, 8], [0, 1, 2, 3, 4, 5, 6, 7, 8, 9], [0, 1, 2, 3, 4, 5, 6, 7, 8, 9, 10]] [(0, none), (1, none), (2, none), (3, none), (4, none), (5, none), (6, none), (7, none), (8, none), (9, none), (10, none), (11, none)] (by kernel_rfl) ?_
          refine l_det (some 38) (.one (.d (.int .i64 v17638)), []) (by kernel_rfl) ?_
          refine l_det (some 39) (.one (.d (.bool (decide (v17638 > 0)))), []) (by kernel_rfl) ?_
          refine l_det (some 40) (.one (.d (.bool (decide (v17638 > 0)))), []) (by kernel_rfl) ?_
          refine l_split (s := 40) (by kernel_rfl) h (fun h => ?_) (fun h => ?_)
          · refine l_det (some 41) (.agg [.d (.str r17579.service), .d (.str r17579.version), .d (.str r17579.operation)], []) (by kernel_rfl) ?_
            refine l_det (some 42) (.one (.view 200001 0 0 ((List.map TLine.enc v17058).length)), []) (by kernel_rfl) ?_
            refine l_det (some 43) (.one (.d (.int .i64 v17638)), []) (by kernel_rfl) ?_
            refine l_det (some 44) (.one (.d (.int .i64 (w64 (v17638 - 1)))), []) (by kernel_rfl) ?_
            obtain ⟨h13470, x17675, h13471, h⟩ := h
            refine l_spec (some 45) (.iad 7 (.t 42) (.t 44)) (.one (.ref 200001 0 ((w64 (v17638 - 1)).toNat) 0), []) (by kernel_rfl) (detA_none (d_iad_v (enc := TLine.enc) (k := .i64) (E := 41) (l := true) (ys := dmm (List.map TLine.enc v17058)) v17058 x17675 (by kernel_rfl) (by kernel_rfl) (by kernel_rfl) (by kernel_rfl) h13470 h13471)) ?_
            refine l_det (some 46) (.one (.ref 200001 0 ((w64 (v17638 - 1)).toNat) 0), []) (by kernel_rfl) ?_
            refine l_spec (some 47) (.ld true 3 (.t 46)) (.agg [.d (.str x17675.group.service), .d (.str x17675.group.version), .d (.str x17675.group.operation)], []) (by kernel_rfl) (detA_none (d_ld_row (enc := TLine.enc) (o := 200001) (g := 0) (i := ((w64 (v17638 - 1)).toNat)) (off := 0) (E := 41) (sz := 7) (l := true) v17058 x17675 (by kernel_rfl) (by kernel_rfl) (by kernel_rfl) h13471 (by kernel_rfl))) ?_
            refine l_call ok44 en44 (some 48) [.agg [.d (.str r17579.service), .d (.str r17579.version), .d (.str r17579.operation)], .agg [.d (.str x17675.group.service), .d (.str x17675.group.version), .d (.str x17675.group.operation)]] [false, false] [.agg (List.map RC.d [.str r17579.service, .str r17579.version, .str r17579.operation]), .agg (List.map RC.d [.str x17675.group.service, .str x17675.group.version, .str x17675.group.operation])] [] (by kernel_rfl) ⟨by kernel_rfl, by kernel_rfl⟩ (by kernel_rfl) (by kernel_rfl) (by kernel_rfl) (cl44 r17579 x17675.group h) ?_
            rintro hR _ _ ⟨r17676, rfl, rfl, h⟩
            refine ⟨false, (.one (.d (.bool r17676)), []), (fun hz => (by cases hz)), (ret_R hR (by kernel_rfl)), ?_⟩
            refine l_det (some 49) (.one (.d (.bool r17676)), []) (by kernel_rfl) ?_
            refine l_nil ?_
            refine q_fall ?_
            exact Lab.mk r17676 [(200001, some 200001), (200002, some 200002)] (by kernel_rfl) (by kernel_rfl) (by kernel_rfl) (by kernel_rfl) h
          · refine l_det (some 41) (.tup [], []) (by kernel_rfl) ?_
            refine l_det (some 42) (.tup [], []) (by kernel_rfl) ?_
            refine l_det (some 43) (.tup [], []) (by kernel_rfl) ?_
            refine l_det (some 44) (.tup [], []) (by kernel_rfl) ?_
            refine l_det (some 45) (.tup [], []) (by kernel_rfl) ?_
            refine l_det (some 46) (.tup [], []) (by kernel_rfl) ?_
            refine l_det (some 47) (.tup [], []) (by kernel_rfl) ?_
            refine l_skip (some 48) (by kernel_rfl) (by kernel_rfl) (by kernel_rfl) ?_
            refine l_det (some 49) (.one (.d (.bool false)), []) (by kernel_rfl) ?_
            refine l_nil ?_
            refine q_fall ?_
            exact Lab.mk false [(200001, some 200001), (200002, some 200002)] (by kernel_rfl) (by kernel_rfl) (by kernel_rfl) (by kernel_rfl) h
        · rintro v17665 h
          have h : J23_5 N17653 v17638 v17058 N17368 v17059 l_23 r17579 level_23 v17665 := h
          unfold J23_5 at h
          refine AW.cond' (by kernel_rfl) h (fun h => ?_) (fun h => ?_)
          · refine AW.skip ?_
            refine q_fall ?_
            refine AW.blk ?_
            refine AW.regL [(0, none), (1, none), (2, none)] (by kernel_rfl) ?_
            refine l_det (some 50) (.one (.d (.int .i64 v17638)), []) (by kernel_rfl) ?_
            refine l_det (some 51) (.one (.d (.int .i64 (w64 (v17638 - 1)))), []) (by kernel_rfl) ?_
            refine l_det (some 9) (.one (.d (.int .i64 (w64 (v17638 - 1)))), []) (by kernel_rfl) ?_
            refine l_nil ?_
            refine q_bfall ?_
            refine q_fall ?_
            exact Lab.mk (w64 (v17638 - 1)) [(200001, some 200001), (200002, some 200002)] (by kernel_rfl) (by kernel_rfl) (by kernel_rfl) (by kernel_rfl) h
          · refine AW.exit ?_
            refine q_exit ?_
            refine q_exit ?_
            refine q_bhere ?_
            refine q_fall ?_
            refine AW.seq ?_
            refine AW.seqL (S := Bool) (fun s => (fun (v17672 : Bool) => [(0, .one (.d (.sl (List.map TTrace.enc l_23)))), (1, .one (.d (.int .i64 level_23))), (5, .one (.view 200001 0 0 ((List.map TLine.enc v17058).length))), (6, .one (.d (.int .i64 v13967))), (7, .one (.d (.int .i64 v17059))), (8, .one (.ref 200002 0 0 0)), (9, .one (.d (.int .i64 v17638))), (63, .one (.d (.bool v17672)))]) s) (fun s => (fun (v17672 : Bool) => [(200001, .pure true 41 7 (List.map TLine.enc v17058)), (200002, .expl true 39 3 [[.d (.str r17579.service), .d (.str r17579.version), .d (.str r17579.operation)]])]) s) (fun s : Bool => J23_6 N17368 v17059 v17058 v17638 l_23 r17579 level_23 s) ?_ ?_
            · refine AW.regdL follows_mixed [[], [0], [0, 1], [0, 1, 2], [0, 1, 2], [0, 1, 2, 4], [0, 1, 2, 3, 4, 5], [0, 1, 2, 3, 4, 5, 6], [0, 1, 2, 3, 4, 5, 6, 7], [0, 1, 2], [0, 1, 2, 3, 4, 5, 6, 7, 8, 9], [0, 1, 2, 3, 4, 5, 6, 7, 8, 9, 10]] [(0, none), (1, none), (2, none), (3, none), (4, none), (5, none), (6, none), (7, none), (8, none), (9, none), (10, none), (11, none)] (by kernel_rfl) ?_
              refine l_det (some 52) (.one (.d (.int .i64 v17638)), []) (by kernel_rfl) ?_
              refine l_det (some 53) (.one (.d (.bool (decide (v17638 > 0)))), []) (by kernel_rfl) ?_
              refine l_det (some 54) (.one (.d (.bool (decide (v17638 > 0)))), []) (by kernel_rfl) ?_
              refine l_split (s := 54) (by kernel_rfl) h (fun h => ?_) (fun h => ?_)
              · refine l_det (some 55) (.one (.view 200001 0 0 ((List.map TLine.enc v17058).length)), []) (by kernel_rfl) ?_
                refine l_det (some 56) (.one (.d (.int .i64 v17638)), []) (by kernel_rfl) ?_
                refine l_det (some 57) (.one (.d (.int .i64 (w64 (v17638 - 1)))), []) (by kernel_rfl) ?_
                obtain ⟨h13468, x17674, h13469, h⟩ := h
                refine l_spec (some 58) (.iad 7 (.t 55) (.t 57)) (.one (.ref 200001 0 ((w64 (v17638 - 1)).toNat) 0), []) (by kernel_rfl) (detA_none (d_iad_v (enc := TLine.enc) (k := .i64) (E := 41) (l := true) (ys := dmm (List.map TLine.enc v17058)) v17058 x17674 (by kernel_rfl) (by kernel_rfl) (by kernel_rfl) (by kernel_rfl) h13468 h13469)) ?_
                refine l_det (some 59) (.one (.ref 200001 0 ((w64 (v17638 - 1)).toNat) 0), []) (by kernel_rfl) ?_
                refine l_spec (some 60) (.ld true 3 (.t 59)) (.agg [.d (.str x17674.group.service), .d (.str x17674.group.version), .d (.str x17674.group.operation)], []) (by kernel_rfl) (detA_none (d_ld_row (enc := TLine.enc) (o := 200001) (g := 0) (i := ((w64 (v17638 - 1)).toNat)) (off := 0) (E := 41) (sz := 7) (l := true) v17058 x17674 (by kernel_rfl) (by kernel_rfl) (by kernel_rfl) h13469 (by kernel_rfl))) ?_
                refine l_det (some 61) (.agg [.d (.str r17579.service), .d (.str r17579.version), .d (.str r17579.operation)], []) (by kernel_rfl) ?_
                refine l_det (some 62) (.one (.d (.bool (decide (x17674.group.service = r17579.service) && (decide (x17674.group.version = r17579.version) && (decide (x17674.group.operation = r17579.operation) && true))))), []) (by kernel_rfl) ?_
                refine l_det (some 63) (.one (.d (.bool (decide (x17674.group.service = r17579.service) && (decide (x17674.group.version = r17579.version) && (decide (x17674.group.operation = r17579.operation) && true))))), []) (by kernel_rfl) ?_
                refine l_nil ?_
                refine q_fall ?_
                exact Lab.mk (decide (x17674.group.service = r17579.service) && (decide (x17674.group.version = r17579.version) && (decide (x17674.group.operation = r17579.operation) && true))) [(200001, some 200001), (200002, some 200002)] (by kernel_rfl) (by kernel_rfl) (by kernel_rfl) (by kernel_rfl) h
              · refine l_det (some 55) (.tup [], []) (by kernel_rfl) ?_
                refine l_det (some 56) (.tup [], []) (by kernel_rfl) ?_
                refine l_det (some 57) (.tup [], []) (by kernel_rfl) ?_
                refine l_det (some 58) (.tup [], []) (by kernel_rfl) ?_
                refine l_det (some 59) (.tup [], []) (by kernel_rfl) ?_
                refine l_det (some 60) (.tup [], []) (by kernel_rfl) ?_
                refine l_det (some 61) (.tup [], []) (by kernel_rfl) ?_
                refine l_det (some 62) (.tup [], []) (by kernel_rfl) ?_
                refine l_det (some 63) (.one (.d (.bool false)), []) (by kernel_rfl) ?_
                refine l_nil ?_
                refine q_fall ?_
                exact Lab.mk false [(200001, some 200001), (200002, some 200002)] (by kernel_rfl) (by kernel_rfl) (by kernel_rfl) (by kernel_rfl) h
            · rintro v17672 h
              have h : J23_6 N17368 v17059 v17058 v17638 l_23 r17579 level_23 v17672 := h
              unfold J23_6 at h
              refine AW.cond' (by kernel_rfl) h (fun h => ?_) (fun h => ?_)
              · refine AW.exit ?_
                refine q_exit ?_
                refine q_bhere ?_
                refine q_fall ?_
                exact Lab.mk v17058 [(200001, some 200001)] (by kernel_rfl) (by kernel_rfl) (by kernel_rfl) (by kernel_rfl) h
              · refine AW.skip ?_
                refine q_fall ?_
                refine AW.regdL follows_mixed [[], [], [], [1, 2], [0, 1, 2, 3], [], [], [], [], [0, 1, 2, 3, 4, 6, 7, 8], [0, 1, 2, 3, 4, 5, 6, 7, 8, 9], [0, 1, 2, 3, 4, 5, 6, 7, 8, 9, 10], [0, 1, 2, 3, 4, 5, 6, 7, 8, 9, 10, 11], [], [], [13, 14], [0, 1, 2, 3, 4, 5, 6, 7, 8, 9, 10, 11, 12, 13, 14, 15], [0, 1, 2, 3, 4, 5, 6, 7, 8, 9, 10, 11, 12, 13, 14, 15, 16]] [(1, none), (2, none), (3, some [67, 1200001]), (5, some [69, 1200001, 1200002]), (6, none), (7, some [71, 1200001, 1200002]), (8, none), (13, none), (14, none), (15, some [79, 1200001]), (0, some [64]), (4, some [64, 68, 1200001]), (9, some [73]), (10, none), (11, some [75]), (12, some [64, 76, 1000075]), (16, none), (17, none)] (by kernel_rfl) ?_
                refine l_det (some 65) (.one (.view 200001 0 0 ((List.map TLine.enc v17058).length)), []) (by kernel_rfl) ?_
                refine l_det (some 66) (.one (.d (.int .i64 v17638)), []) (by kernel_rfl) ?_
                obtain ⟨h13458, h13459, h⟩ := h
                refine l_spec (some 67) (.slc 7 (.t 65) none (some (.t 66)) none) (.one (.view 200001 0 0 (v17638.toNat - 0)), []) (by kernel_rfl) (detA_some (d_slc_vf (enc := TLine.enc) (E := 41) (l := true) (ys := dmm (List.map TLine.enc v17058)) (lo' := none) (hi' := (some v17638)) v17058 (by kernel_rfl) (by kernel_rfl) (by kernel_rfl) (by kernel_rfl) (by kernel_rfl) (b_hi h13458 h13459)) (by kernel_rfl)) ?_
                refine l_det (some 69) (.agg [.d (.str r17579.service), .d (.str r17579.version), .d (.str r17579.operation)], []) (by kernel_rfl) ?_
                refine l_det (some 70) (.one (.d (.sl (List.map TTrace.enc l_23))), []) (by kernel_rfl) ?_
                refine l_det (some 71) (.agg [.d (.str r17579.service), .d (.str r17579.version), .d (.str r17579.operation)], []) (by kernel_rfl) ?_
                refine l_det (some 72) (.one (.d (.int .i64 level_23)), []) (by kernel_rfl) ?_
                refine l_det (some 77) (.one (.view 200001 0 0 ((List.map TLine.enc v17058).length)), []) (by kernel_rfl) ?_
                refine l_det (some 78) (.one (.d (.int .i64 v17638)), []) (by kernel_rfl) ?_
                obtain ⟨h13461, h13462, h⟩ := h
                refine l_spec (some 79) (.slc 7 (.t 77) (some (.t 78)) none none) (.one (.view 200001 0 v17638.toNat (v17058.length - v17638.toNat)), []) (by kernel_rfl) (detA_some (d_slc_vf (enc := TLine.enc) (E := 41) (l := true) (ys := dmm (List.map TLine.enc v17058)) (lo' := (some v17638)) (hi' := none) v17058 (by kernel_rfl) (by kernel_rfl) (by kernel_rfl) (by kernel_rfl) (by kernel_rfl) (b_lo h13461 h13462)) (by kernel_rfl)) ?_
                refine l_det (some 64) (.one (.view 64 1 0 0), [(64, 1, .row true 41 7 [])]) (by kernel_rfl) ?_
                obtain ⟨h13464, h⟩ := h
                refine l_spec (some 68) (.app 41 7 80 [.str ⟨#[]⟩, .str ⟨#[]⟩, .str ⟨#[]⟩, .int .i64 0, .int .i64 0, .int .i64 0, .int .i64 0] (.t 64) (.t 67)) (.one (.view 64 2 0 ((List.map TLine.enc ([] ++ (List.take (v17638.toNat - 0) (List.drop 0 v17058)))).length)), [(64, 2, .row true 41 7 (dmm (List.map TLine.enc ([] ++ (List.take (v17638.toNat - 0) (List.drop 0 v17058))))))]) (by kernel_rfl) (detA_some (d_app_v (enc := TLine.enc) (xc := .view 200001 0 0 (v17638.toNat - 0)) [] (List.take (v17638.toNat - 0) (List.drop 0 v17058)) (by kernel_rfl) (by kernel_rfl) (by kernel_rfl) (by kernel_rfl) (e_part (E := 41) (l := true) v17058 (by kernel_rfl) (by kernel_rfl) (by simp only [List.length_map] at *; omega)) h13464 (by kernel_rfl)) (by kernel_rfl)) ?_
                refine l_call ok45 en45 (some 73) [.one (.d (.sl (List.map TTrace.enc l_23))), .agg [.d (.str r17579.service), .d (.str r17579.version), .d (.str r17579.operation)], .one (.d (.int .i64 level_23))] [false, false, false] [.one (.d (.sl (List.map TTrace.enc l_23))), .agg (List.map RC.d [.str r17579.service, .str r17579.version, .str r17579.operation]), .one (.d (.int .i64 level_23))] [] (by kernel_rfl) ⟨by kernel_rfl, by kernel_rfl⟩ (by kernel_rfl) (by kernel_rfl) (by kernel_rfl) (cl45 l_23 r17579 level_23 h) ?_
                rintro hR _ _ ⟨r17673, rfl, rfl, h⟩
                refine ⟨false, (.agg [.d (.int .i64 r17673.spans), .d (.int .i64 r17673.errors), .d (.int .i64 r17673.duration), .d (.int .i64 r17673.traces)], []), (fun hz => (by cases hz)), (ret_R hR (by kernel_rfl)), ?_⟩
                refine l_det (some 74) (.agg [.d (.str r17579.service), .d (.str r17579.version), .d (.str r17579.operation), .d (.int .i64 r17673.spans), .d (.int .i64 r17673.errors), .d (.int .i64 r17673.duration), .d (.int .i64 r17673.traces)], []) (by kernel_rfl) ?_
                refine l_det (some 75) (.one (.view 75 1 0 1), [(75, 1, .row true 41 7 [[.d (.str r17579.service), .d (.str r17579.version), .d (.str r17579.operation), .d (.int .i64 r17673.spans), .d (.int .i64 r17673.errors), .d (.int .i64 r17673.duration), .d (.int .i64 r17673.traces)]])]) (by kernel_rfl) ?_
                obtain ⟨h13466, h⟩ := h
                refine l_spec (some 76) (.app 41 7 80 [.str ⟨#[]⟩, .str ⟨#[]⟩, .str ⟨#[]⟩, .int .i64 0, .int .i64 0, .int .i64 0, .int .i64 0] (.t 68) (.t 75)) (.one (.view 64 3 0 ((List.map TLine.enc (([] ++ (List.take (v17638.toNat - 0) (List.drop 0 v17058))) ++ [(TLine.mk r17579 r17673)])).length)), [(64, 3, .row true 41 7 (dmm (List.map TLine.enc (([] ++ (List.take (v17638.toNat - 0) (List.drop 0 v17058))) ++ [(TLine.mk r17579 r17673)]))))]) (by kernel_rfl) (detA_some (d_app_v (enc := TLine.enc) (xc := .view 75 1 0 1) ([] ++ (List.take (v17638.toNat - 0) (List.drop 0 v17058))) [(TLine.mk r17579 r17673)] (by kernel_rfl) (by kernel_rfl) (by kernel_rfl) (by kernel_rfl) (by kernel_rfl) h13466 (by kernel_rfl)) (by kernel_rfl)) ?_
                obtain ⟨h13467, h⟩ := h
                refine l_spec (some 80) (.app 41 7 80 [.str ⟨#[]⟩, .str ⟨#[]⟩, .str ⟨#[]⟩, .int .i64 0, .int .i64 0, .int .i64 0, .int .i64 0] (.t 76) (.t 79)) (.one (.view 64 4 0 ((List.map TLine.enc ((([] ++ (List.take (v17638.toNat - 0) (List.drop 0 v17058))) ++ [(TLine.mk r17579 r17673)]) ++ (List.take (v17058.length - v17638.toNat) (List.drop v17638.toNat v17058)))).length)), [(64, 4, .row true 41 7 (dmm (List.map TLine.enc ((([] ++ (List.take (v17638.toNat - 0) (List.drop 0 v17058))) ++ [(TLine.mk r17579 r17673)]) ++ (List.take (v17058.length - v17638.toNat) (List.drop v17638.toNat v17058))))))]) (by kernel_rfl) (detA_none (d_app_v (enc := TLine.enc) (xc := .view 200001 0 v17638.toNat (v17058.length - v17638.toNat)) (([] ++ (List.take (v17638.toNat - 0) (List.drop 0 v17058))) ++ [(TLine.mk r17579 r17673)]) (List.take (v17058.length - v17638.toNat) (List.drop v17638.toNat v17058)) (by kernel_rfl) (by kernel_rfl) (by kernel_rfl) (by kernel_rfl) (e_part (E := 41) (l := true) v17058 (by kernel_rfl) (by kernel_rfl) (by simp only [List.length_map] at *; omega)) h13467 (by kernel_rfl))) ?_
                refine l_det (some 5) (.one (.view 64 4 0 ((List.map TLine.enc ((([] ++ (List.take (v17638.toNat - 0) (List.drop 0 v17058))) ++ [(TLine.mk r17579 r17673)]) ++ (List.take (v17058.length - v17638.toNat) (List.drop v17638.toNat v17058)))).length)), []) (by kernel_rfl) ?_
                refine l_nil ?_
                refine q_bfall ?_
                refine q_fall ?_
                exact Lab.mk ((([] ++ (List.take (v17638.toNat - 0) (List.drop 0 v17058))) ++ [(TLine.mk r17579 r17673)]) ++ (List.take (v17058.length - v17638.toNat) (List.drop v17638.toNat v17058))) [(200001, some 64)] (by kernel_rfl) (by kernel_rfl) (by kernel_rfl) (by kernel_rfl) h
      · rintro v17575 h
        have h : J23_3 N17368 v17059 v17575 := h
        unfold J23_3 at h
        refine AW.regL [(0, none), (1, none), (2, none)] (by kernel_rfl) ?_
        refine l_det (some 24) (.one (.d (.int .i64 v17059)), []) (by kernel_rfl) ?_
        refine l_det (some 25) (.one (.d (.int .i64 (w64 (v17059 + 1)))), []) (by kernel_rfl) ?_
        refine l_det (some 7) (.one (.d (.int .i64 (w64 (v17059 + 1)))), []) (by kernel_rfl) ?_
        refine l_nil ?_
        refine q_fall ?_
        exact Lab.mk (v17575, (w64 (v17059 + 1))) [(200001, some 200001)] (by kernel_rfl) (by kernel_rfl) (by kernel_rfl) (by kernel_rfl) h
    · refine AW.exit ?_
      refine q_exit ?_
      refine q_exit ?_
      refine q_bhere ?_
      refine q_bfall ?_
      refine q_fall ?_
      refine AW.regL [(0, none), (1, none), (2, none)] (by kernel_rfl) ?_
      refine l_det (some 14) (.one (.d (.int .i64 v13967)), []) (by kernel_rfl) ?_
      refine l_det (some 15) (.one (.d (.int .i64 (w64 (v13967 + 1)))), []) (by kernel_rfl) ?_
      refine l_det (some 6) (.one (.d (.int .i64 (w64 (v13967 + 1)))), []) (by kernel_rfl) ?_
      refine l_nil ?_
      refine q_fall ?_
      exact Lab.mk (v17058, (w64 (v13967 + 1))) [(200001, some 200001)] (by kernel_rfl) (by kernel_rfl) (by kernel_rfl) (by kernel_rfl) h
  · refine AW.exit ?_
    refine q_exit ?_
    refine q_exit ?_
    refine q_bhere ?_
    refine q_fall ?_
    refine AW.sregL [(0, none), (1, none)] (by kernel_rfl) ?_
    refine l_det (some 81) (.one (.view 200001 0 0 ((List.map TLine.enc v13966).length)), []) (by kernel_rfl) ?_
    refine l_det (some 4) (.one (.view 200001 0 0 ((List.map TLine.enc v13966).length)), []) (by kernel_rfl) ?_
    refine l_nil ?_
    refine AW.ret ?_
    exact q_end [.one (.view 200001 0 0 ((List.map TLine.enc v13966).length))] [true] [.one (.own 41 7 (List.map TLine.enc v13966))] [] [] (by kernel_rfl) (ps_own (by kernel_rfl) (by kernel_rfl) rfl ps_nil) (by kernel_rfl) (by kernel_rfl) (by kernel_rfl) (by kernel_rfl) (Eq.mp (by kernel_rfl) (hK v13966 h)) (.inr rfl)
def r22_0 : List AR := [⟨some 4, .mov (.c (.bool false)), [], none⟩]
def r22_1 : List AR := [⟨some 6, .mov (.t 0), [], none⟩,
  ⟨some 7, .lens (.t 6), [0], none⟩,
  ⟨some 8, .mov (.t 1), [], none⟩,
  ⟨some 9, .lens (.t 8), [2], none⟩,
  ⟨some 10, .bin .neq (.t 7) (.t 9), [1, 3], none⟩]
def r22_2 : List AR := [⟨some 4, .mov (.c (.bool false)), [], none⟩]
def r22_3 : List AR := [⟨some 5, .mov (.c (.int .i64 0)), [], none⟩]
def r22_4 : List AR := [⟨some 11, .mov (.t 5), [], none⟩,
  ⟨some 12, .mov (.t 0), [], none⟩,
  ⟨some 13, .lens (.t 12), [1], none⟩,
  ⟨some 14, .bin .lss (.t 11) (.t 13), [0, 2], none⟩]
def r22_5 : List AR := [⟨some 17, .mov (.t 0), [], none⟩,
  ⟨some 18, .mov (.t 5), [], none⟩,
  ⟨some 19, .iad 7 (.t 17) (.t 18), [0, 1], none⟩,
  ⟨some 20, .ld true 7 (.t 19), [2], none⟩,
  ⟨some 21, .mov (.t 1), [], none⟩,
  ⟨some 22, .mov (.t 5), [], none⟩,
  ⟨some 23, .iad 7 (.t 21) (.t 22), [4, 5], none⟩,
  ⟨some 24, .ld true 7 (.t 23), [6], none⟩,
  ⟨some 25, .eqs true [.s, .s, .s, .i, .i, .i, .i] (.t 20) (.t 24), [3, 7], none⟩]
def r22_6 : List AR := [⟨some 4, .mov (.c (.bool false)), [], none⟩]
def r22_7 : List AR := [⟨some 15, .mov (.t 5), [], none⟩,
  ⟨some 16, .bin .add (.t 15) (.c (.int .i64 1)), [0], none⟩,
  ⟨some 5, .mov (.t 16), [1, 0, 1], none⟩]
def r22_8 : List AR := [⟨some 4, .mov (.c (.bool true)), [], none⟩]
def c22 : ACode := .seq (.reg r22_0 false) (.seq (.seq (.reg r22_1 false) (.cond (.t 10) (.seq (.reg r22_2 false) (.ret)) (.skip))) (.seq (.seq (.reg r22_3 false) (.blk 0 (.loop (.seq (.seq (.reg r22_4 false) (.cond (.t 14) (.skip) (.exit 0))) (.seq (.blk 1 (.seq (.reg r22_5 true) (.cond (.t 25) (.seq (.reg r22_6 false) (.ret)) (.skip)))) (.reg r22_7 false)))))) (.seq (.reg r22_8 false) (.ret))))
theorem body22 : Try.f22.body.map (comp Try.prog 26) = some c22 := by kernel_rfl
theorem res22 : allSome (Try.f22.results.toList.map (compRes Try.prog)) = some [.s 4] := by kernel_rfl
theorem cok22 {S : FSpec} (h : ∀ args K, S args K → args.all argOk = true ∧ args.length ≤ 26 ∧ AW Try.prog 26 (some ownP) c22 (initS args) (retPost [.s 4] args K)) : COK Try.prog 22 S := of_body Try.func22 Try.ntmps22 body22 res22 h

def L22_1 (a_22 : List TLine) (b_22 : List TLine) (K : Bool → Prop) (v17712 : Int) (N17721 : Int → Prop) : Prop :=
  Cond (decide (v17712 < (a_22.length : Int))) (Idx a_22 v17712 fun x17728 => Idx b_22 v17712 fun x17729 => Cond (!(decide (x17728.group.service = x17729.group.service) && (decide (x17728.group.version = x17729.group.version) && (decide (x17728.group.operation = x17729.group.operation) && (decide (x17728.total.spans = x17729.total.spans) && (decide (x17728.total.errors = x17729.total.errors) && (decide (x17728.total.duration = x17729.total.duration) && (decide (x17728.total.traces = x17729.total.traces) && true)))))))) (K false) (N17721 (w64 (v17712 + 1)))) (K true)

/-- sleuth/sleuthlaw25.same -/
def W22 (a_22 : List TLine) (b_22 : List TLine) (K : Bool → Prop) : Prop :=
  Cond (decide (¬ (a_22.length : Int) = (b_22.length : Int))) (K false) (LoopW (fun (s : Int) N17721 => L22_1 a_22 b_22 K s N17721) 0)

def S22 : FSpec := fun args K => ∃ (a_22 : List TLine), ∃ (b_22 : List TLine), ∃ (Kr : Bool → Prop), args = [.one (.d (.sl (List.map TLine.enc a_22))), .one (.d (.sl (List.map TLine.enc b_22)))] ∧ W22 a_22 b_22 Kr ∧ ∀ r, Kr r → K (.one (.d (.bool r))) []

theorem en22 : enters Try.prog 22 = true := by unfold enters; rw [Try.func22]; rfl
theorem cl22 (a_22 : List TLine) (b_22 : List TLine) {Kr : Bool → Prop} (h : W22 a_22 b_22 Kr) : S22 [.one (.d (.sl (List.map TLine.enc a_22))), .one (.d (.sl (List.map TLine.enc b_22)))] (fun rv rows => ∃ r, rv = (.one (.d (.bool r))) ∧ rows = [] ∧ Kr r) := ⟨a_22, b_22, Kr, rfl, h, fun r hr => ⟨r, rfl, rfl, hr⟩⟩

theorem ok22 : COK Try.prog 22 S22 := by
  refine cok22 fun args K0 hS => ?_
  obtain ⟨a_22, b_22, K, rfl, h, hK⟩ := hS
  refine ⟨by kernel_rfl, by simp, ?_⟩
  unfold W22 at h
  refine AW.sregL [(0, none)] (by kernel_rfl) ?_
  refine l_det (some 4) (.one (.d (.bool false)), []) (by kernel_rfl) ?_
  refine l_nil ?_
  refine AW.seq ?_
  refine AW.sregL [(0, none), (1, none), (2, none), (3, none), (4, none)] (by kernel_rfl) ?_
  refine l_det (some 6) (.one (.d (.sl (List.map TLine.enc a_22))), []) (by kernel_rfl) ?_
  refine l_spec (some 7) (.lens (.t 6)) (.one (.d (.int .i64 (a_22.length : Int))), []) (by kernel_rfl) (detA_none (d_lens_sl (enc := TLine.enc) a_22 (by kernel_rfl))) ?_
  refine l_det (some 8) (.one (.d (.sl (List.map TLine.enc b_22))), []) (by kernel_rfl) ?_
  refine l_spec (some 9) (.lens (.t 8)) (.one (.d (.int .i64 (b_22.length : Int))), []) (by kernel_rfl) (detA_none (d_lens_sl (enc := TLine.enc) b_22 (by kernel_rfl))) ?_
  refine l_det (some 10) (.one (.d (.bool (decide (¬ (a_22.length : Int) = (b_22.length : Int))))), []) (by kernel_rfl) ?_
  refine l_nil ?_
  refine AW.cond' (by kernel_rfl) h (fun h => ?_) (fun h => ?_)
  · refine AW.sregL [(0, none)] (by kernel_rfl) ?_
    refine l_det (some 4) (.one (.d (.bool false)), []) (by kernel_rfl) ?_
    refine l_nil ?_
    refine AW.ret ?_
    refine q_ret ?_
    exact q_end [.one (.d (.bool false))] [false] [.one (.d (.bool false))] [] [] (by kernel_rfl) ⟨by kernel_rfl, by kernel_rfl⟩ (by kernel_rfl) (by kernel_rfl) (by kernel_rfl) (by kernel_rfl) (Eq.mp (by kernel_rfl) (hK false h)) (.inr rfl)
  · refine AW.skip ?_
    refine q_fall ?_
    refine AW.seq ?_
    refine AW.sregL [(0, none)] (by kernel_rfl) ?_
    refine l_det (some 5) (.one (.d (.int .i64 0)), []) (by kernel_rfl) ?_
    refine l_nil ?_
    refine AW.blk ?_
    refine AW.loopL (S := Int) (fun s => (fun (v17712 : Int) => [(0, .one (.d (.sl (List.map TLine.enc a_22)))), (1, .one (.d (.sl (List.map TLine.enc b_22)))), (5, .one (.d (.int .i64 v17712)))]) s) (fun s => (fun (v17712 : Int) => []) s) (fun (s : Int) N17721 => L22_1 a_22 b_22 K s N17721) (N := fun s => LoopW (fun (s : Int) N17721 => L22_1 a_22 b_22 K s N17721) s) (Lab.mk 0 [] (by kernel_rfl) (by kernel_rfl) (by kernel_rfl) (by kernel_rfl) h) (fun _ h => h) ?_
    rintro v17712 N17721 h
    have h : L22_1 a_22 b_22 K v17712 N17721 := h
    unfold L22_1 at h
    refine AW.seq ?_
    refine AW.sregL [(0, none), (1, none), (2, none), (3, none)] (by kernel_rfl) ?_
    refine l_det (some 11) (.one (.d (.int .i64 v17712)), []) (by kernel_rfl) ?_
    refine l_det (some 12) (.one (.d (.sl (List.map TLine.enc a_22))), []) (by kernel_rfl) ?_
    refine l_spec (some 13) (.lens (.t 12)) (.one (.d (.int .i64 (a_22.length : Int))), []) (by kernel_rfl) (detA_none (d_lens_sl (enc := TLine.enc) a_22 (by kernel_rfl))) ?_
    refine l_det (some 14) (.one (.d (.bool (decide (v17712 < (a_22.length : Int))))), []) (by kernel_rfl) ?_
    refine l_nil ?_
    refine AW.cond' (by kernel_rfl) h (fun h => ?_) (fun h => ?_)
    · refine AW.skip ?_
      refine q_fall ?_
      refine AW.seq ?_
      refine AW.blk ?_
      refine AW.sregdL follows_mixed [[], [], [0, 1], [0, 1, 2], [], [], [4, 5], [4, 5, 6], [0, 1, 2, 3, 4, 5, 6, 7]] [(0, none), (1, none), (2, none), (3, none), (4, none), (5, none), (6, none), (7, none), (8, none)] (by kernel_rfl) ?_
      refine l_det (some 17) (.one (.d (.sl (List.map TLine.enc a_22))), []) (by kernel_rfl) ?_
      refine l_det (some 18) (.one (.d (.int .i64 v17712)), []) (by kernel_rfl) ?_
      obtain ⟨h93, x17728, h94, h⟩ := h
      refine l_spec (some 19) (.iad 7 (.t 17) (.t 18)) (.one (.d (.ptr [.str x17728.group.service, .str x17728.group.version, .str x17728.group.operation, .int .i64 x17728.total.spans, .int .i64 x17728.total.errors, .int .i64 x17728.total.duration, .int .i64 x17728.total.traces])), []) (by kernel_rfl) (detA_none (d_iad_sl (enc := TLine.enc) (k := .i64) a_22 x17728 (by kernel_rfl) (by kernel_rfl) h93 h94 rfl)) ?_
      refine l_det (some 20) (.agg [.d (.str x17728.group.service), .d (.str x17728.group.version), .d (.str x17728.group.operation), .d (.int .i64 x17728.total.spans), .d (.int .i64 x17728.total.errors), .d (.int .i64 x17728.total.duration), .d (.int .i64 x17728.total.traces)], []) (by kernel_rfl) ?_
      refine l_det (some 21) (.one (.d (.sl (List.map TLine.enc b_22))), []) (by kernel_rfl) ?_
      refine l_det (some 22) (.one (.d (.int .i64 v17712)), []) (by kernel_rfl) ?_
      obtain ⟨h95, x17729, h96, h⟩ := h
      refine l_spec (some 23) (.iad 7 (.t 21) (.t 22)) (.one (.d (.ptr [.str x17729.group.service, .str x17729.group.version, .str x17729.group.operation, .int .i64 x17729.total.spans, .int .i64 x17729.total.errors, .int .i64 x17729.total.duration, .int .i64 x17729.total.traces])), []) (by kernel_rfl) (detA_none (d_iad_sl (enc := TLine.enc) (k := .i64) b_22 x17729 (by kernel_rfl) (by kernel_rfl) h95 h96 rfl)) ?_
      refine l_det (some 24) (.agg [.d (.str x17729.group.service), .d (.str x17729.group.version), .d (.str x17729.group.operation), .d (.int .i64 x17729.total.spans), .d (.int .i64 x17729.total.errors), .d (.int .i64 x17729.total.duration), .d (.int .i64 x17729.total.traces)], []) (by kernel_rfl) ?_
      refine l_det (some 25) (.one (.d (.bool (!(decide (x17728.group.service = x17729.group.service) && (decide (x17728.group.version = x17729.group.version) && (decide (x17728.group.operation = x17729.group.operation) && (decide (x17728.total.spans = x17729.total.spans) && (decide (x17728.total.errors = x17729.total.errors) && (decide (x17728.total.duration = x17729.total.duration) && (decide (x17728.total.traces = x17729.total.traces) && true)))))))))), []) (by kernel_rfl) ?_
      refine l_nil ?_
      refine AW.cond' (by kernel_rfl) h (fun h => ?_) (fun h => ?_)
      · refine AW.sregL [(0, none)] (by kernel_rfl) ?_
        refine l_det (some 4) (.one (.d (.bool false)), []) (by kernel_rfl) ?_
        refine l_nil ?_
        refine AW.ret ?_
        refine q_bret ?_
        refine q_ret ?_
        refine q_ret ?_
        refine q_bret ?_
        refine q_ret ?_
        exact q_end [.one (.d (.bool false))] [false] [.one (.d (.bool false))] [] [] (by kernel_rfl) ⟨by kernel_rfl, by kernel_rfl⟩ (by kernel_rfl) (by kernel_rfl) (by kernel_rfl) (by kernel_rfl) (Eq.mp (by kernel_rfl) (hK false h)) (.inr rfl)
      · refine AW.skip ?_
        refine q_bfall ?_
        refine q_fall ?_
        refine AW.regL [(0, none), (1, none), (2, none)] (by kernel_rfl) ?_
        refine l_det (some 15) (.one (.d (.int .i64 v17712)), []) (by kernel_rfl) ?_
        refine l_det (some 16) (.one (.d (.int .i64 (w64 (v17712 + 1)))), []) (by kernel_rfl) ?_
        refine l_det (some 5) (.one (.d (.int .i64 (w64 (v17712 + 1)))), []) (by kernel_rfl) ?_
        refine l_nil ?_
        refine q_fall ?_
        exact Lab.mk (w64 (v17712 + 1)) [] (by kernel_rfl) (by kernel_rfl) (by kernel_rfl) (by kernel_rfl) h
    · refine AW.exit ?_
      refine q_exit ?_
      refine q_exit ?_
      refine q_bhere ?_
      refine q_fall ?_
      refine AW.sregL [(0, none)] (by kernel_rfl) ?_
      refine l_det (some 4) (.one (.d (.bool true)), []) (by kernel_rfl) ?_
      refine l_nil ?_
      refine AW.ret ?_
      exact q_end [.one (.d (.bool true))] [false] [.one (.d (.bool true))] [] [] (by kernel_rfl) ⟨by kernel_rfl, by kernel_rfl⟩ (by kernel_rfl) (by kernel_rfl) (by kernel_rfl) (by kernel_rfl) (Eq.mp (by kernel_rfl) (hK true h)) (.inr rfl)
def r5_0 : List AR := [⟨some 3, .box 27 true 7 (.t 0), [], none⟩,
  ⟨some 4, .box 28 true 3 (.t 1), [], none⟩,
  ⟨some 6, .mov (.c (.bool false)), [], none⟩]
def r5_1 : List AR := [⟨some 18, .call 12 [], [], none⟩,
  ⟨some 19, .un .not (.t 18), [0], none⟩]
def r5_2 : List AR := [⟨some 6, .mov (.c (.bool false)), [], none⟩]
def r5_3 : List AR := [⟨some 20, .ld true 7 (.t 3), [], none⟩,
  ⟨some 21, .ld true 3 (.t 4), [], none⟩,
  ⟨some 22, .call 13 [.t 20, .t 21], [0, 1], none⟩,
  ⟨some 7, .mov (.t 22), [2, 2, 0, 1, 2], none⟩]
def r5_4 : List AR := [⟨some 23, .mov (.t 2), [], none⟩,
  ⟨some 24, .bin .lss (.t 23) (.c (.int .i64 1)), [0], none⟩,
  ⟨some 25, .mov (.t 24), [1], none⟩,
  ⟨some 26, .mov (.t 2), [2], some (25, false)⟩,
  ⟨some 27, .bin .gtr (.t 26) (.c (.int .i64 3)), [3, 2], some (25, false)⟩,
  ⟨some 28, .pick (.t 25) (.c (.bool true)) (.t 27), [2, 4], none⟩]
def r5_5 : List AR := [⟨some 30, .mov (.t 7), [], none⟩,
  ⟨some 31, .mov (.t 2), [], none⟩,
  ⟨some 32, .call 14 [.t 30, .t 31], [0, 1], none⟩,
  ⟨some 29, .mov (.t 32), [2], none⟩,
  ⟨some 33, .ext (.t 29) 0, [3], none⟩,
  ⟨some 34, .ext (.t 29) 1, [3], none⟩,
  ⟨some 8, .mov (.t 33), [4, 2, 0, 1, 2, 3, 4], none⟩,
  ⟨some 9, .mov (.t 34), [5, 6, 0, 1, 2, 3, 4, 5, 6], none⟩]
def r5_6 : List AR := [⟨some 36, .bld [.int .i64 0, .int .i64 0, .int .i64 0, .int .i64 0, .int .i64 0, .int .i64 0, .str ⟨#[]⟩, .str ⟨#[]⟩, .str ⟨#[]⟩, .int .i64 0, .int .i64 0, .bool false, .nils, .nils] [(6, 1, .c (.str ⟨#[115]⟩))], [], none⟩,
  ⟨some 37, .mov (.t 2), [], none⟩,
  ⟨some 38, .call 20 [.t 36, .t 37], [0, 1], none⟩,
  ⟨some 35, .mov (.t 38), [2], none⟩,
  ⟨some 39, .ext (.t 35) 0, [3], none⟩,
  ⟨some 40, .ext (.t 35) 1, [3], none⟩,
  ⟨some 10, .alloc 39 true [.str ⟨#[]⟩, .str ⟨#[]⟩, .str ⟨#[]⟩], [], none⟩,
  ⟨none, .st 3 (.t 10) (.t 39), [6, 4, 2, 0, 1, 2, 3, 4, 6], none⟩,
  ⟨some 11, .mov (.t 40), [5, 7, 0, 1, 2, 3, 4, 5, 6, 7], none⟩]
def r5_7 : List AR := [⟨some 41, .mov (.t 9), [], none⟩,
  ⟨some 42, .bin .eql (.t 41) (.c (.int .i64 12)), [0], none⟩,
  ⟨some 43, .mov (.t 42), [1], none⟩,
  ⟨some 44, .mov (.t 8), [2], some (43, true)⟩,
  ⟨some 45, .lens (.t 44), [3, 2], some (43, true)⟩,
  ⟨some 46, .bin .eql (.t 45) (.c (.int .i64 0)), [4, 2], some (43, true)⟩,
  ⟨some 47, .pick (.t 43) (.t 46) (.c (.bool false)), [2, 5], none⟩,
  ⟨some 48, .mov (.t 47), [6, 2], none⟩,
  ⟨some 49, .mov (.t 11), [7], some (48, true)⟩,
  ⟨some 50, .bin .eql (.t 49) (.c (.int .i64 12)), [8, 7], some (48, true)⟩,
  ⟨some 51, .pick (.t 48) (.t 50) (.c (.bool false)), [7, 9], none⟩,
  ⟨some 52, .mov (.t 51), [10, 7], none⟩,
  ⟨some 53, .ld true 3 (.t 10), [11], some (52, true)⟩,
  ⟨some 54, .bld [.str ⟨#[]⟩, .str ⟨#[]⟩, .str ⟨#[]⟩] [], [11], some (52, true)⟩,
  ⟨some 55, .eqs false [.s, .s, .s] (.t 53) (.t 54), [12, 13, 11], some (52, true)⟩,
  ⟨some 56, .pick (.t 52) (.t 55) (.c (.bool false)), [11, 14], none⟩,
  ⟨some 6, .mov (.t 56), [15, 11, 0, 1, 2, 3, 4, 5, 6, 7, 8, 9, 10, 11, 12, 13, 14, 15], none⟩]
def r5_8 : List AR := [⟨some 12, .mov (.c (.int .i64 0)), [], none⟩]
def r5_9 : List AR := [⟨some 57, .mov (.t 12), [], none⟩,
  ⟨some 58, .mov (.t 7), [], none⟩,
  ⟨some 59, .lens (.t 58), [1], none⟩,
  ⟨some 60, .bin .lss (.t 57) (.t 59), [0, 2], none⟩]
def r5_10 : List AR := [⟨some 13, .mov (.c (.int .i64 0)), [], none⟩]
def r5_11 : List AR := [⟨some 63, .mov (.t 13), [], none⟩,
  ⟨some 64, .mov (.t 7), [], none⟩,
  ⟨some 65, .mov (.t 12), [], none⟩,
  ⟨some 66, .iad 3 (.t 64) (.t 65), [1, 2], none⟩,
  ⟨some 67, .fad (.t 66) 2, [3], none⟩,
  ⟨some 68, .ld false 1 (.t 67), [4], none⟩,
  ⟨some 69, .lens (.t 68), [5], none⟩,
  ⟨some 70, .bin .lss (.t 63) (.t 69), [0, 6], none⟩]
def r5_12 : List AR := [⟨some 74, .mov (.t 7), [], none⟩,
  ⟨some 75, .mov (.t 12), [], none⟩,
  ⟨some 76, .iad 3 (.t 74) (.t 75), [0, 1], none⟩,
  ⟨some 77, .fad (.t 76) 2, [2], none⟩,
  ⟨some 78, .ld false 1 (.t 77), [3], none⟩,
  ⟨some 79, .mov (.t 13), [], none⟩,
  ⟨some 80, .iad 14 (.t 78) (.t 79), [4, 5], none⟩,
  ⟨some 81, .ld true 14 (.t 80), [6], none⟩,
  ⟨some 82, .mov (.t 2), [], none⟩,
  ⟨some 83, .call 20 [.t 81, .t 82], [7, 8], none⟩,
  ⟨some 73, .mov (.t 83), [9], none⟩,
  ⟨some 84, .ext (.t 73) 0, [10], none⟩,
  ⟨some 85, .ext (.t 73) 1, [10], none⟩,
  ⟨some 14, .alloc 39 true [.str ⟨#[]⟩, .str ⟨#[]⟩, .str ⟨#[]⟩], [], none⟩,
  ⟨none, .st 3 (.t 14) (.t 84), [13, 11, 9, 0, 1, 2, 3, 4, 5, 6, 7, 8, 9, 10, 11, 13], none⟩,
  ⟨some 15, .mov (.t 85), [12, 14, 0, 1, 2, 3, 4, 5, 6, 7, 8, 9, 10, 11, 12, 13, 14], none⟩]
def r5_13 : List AR := [⟨some 86, .mov (.t 15), [], none⟩,
  ⟨some 87, .bin .neq (.t 86) (.c (.int .i64 0)), [0], none⟩,
  ⟨some 88, .mov (.t 87), [1], none⟩,
  ⟨some 89, .ld true 3 (.t 14), [2], some (88, false)⟩,
  ⟨some 90, .mov (.t 7), [2], some (88, false)⟩,
  ⟨some 91, .mov (.t 12), [2], some (88, false)⟩,
  ⟨some 92, .iad 3 (.t 90) (.t 91), [4, 5, 2], some (88, false)⟩,
  ⟨some 93, .fad (.t 92) 2, [6, 2], some (88, false)⟩,
  ⟨some 94, .ld false 1 (.t 93), [7, 2], some (88, false)⟩,
  ⟨some 95, .mov (.t 13), [2], some (88, false)⟩,
  ⟨some 96, .iad 14 (.t 94) (.t 95), [8, 9, 2], some (88, false)⟩,
  ⟨some 97, .ld true 14 (.t 96), [10, 2], some (88, false)⟩,
  ⟨some 98, .mov (.t 2), [2], some (88, false)⟩,
  ⟨some 99, .call 21 [.t 97, .t 98], [11, 12, 2, 2], some (88, false)⟩,
  ⟨some 100, .eqs true [.s, .s, .s] (.t 89) (.t 99), [3, 13, 2], some (88, false)⟩,
  ⟨some 101, .pick (.t 88) (.c (.bool true)) (.t 100), [2, 14], none⟩]
def r5_14 : List AR := [⟨some 6, .mov (.c (.bool false)), [], none⟩]
def r5_15 : List AR := [⟨some 71, .mov (.t 13), [], none⟩,
  ⟨some 72, .bin .add (.t 71) (.c (.int .i64 1)), [0], none⟩,
  ⟨some 13, .mov (.t 72), [1, 0, 1], none⟩]
def r5_16 : List AR := [⟨some 61, .mov (.t 12), [], none⟩,
  ⟨some 62, .bin .add (.t 61) (.c (.int .i64 1)), [0], none⟩,
  ⟨some 12, .mov (.t 62), [1, 0, 1], none⟩]
def r5_17 : List AR := [⟨some 103, .mov (.t 7), [], none⟩,
  ⟨some 104, .mov (.t 2), [], none⟩,
  ⟨some 105, .call 14 [.t 103, .t 104], [0, 1], none⟩,
  ⟨some 102, .mov (.t 105), [2], none⟩,
  ⟨some 106, .ext (.t 102) 0, [3], none⟩,
  ⟨some 107, .ext (.t 102) 1, [3], none⟩,
  ⟨some 16, .mov (.t 106), [4, 2, 0, 1, 2, 3, 4], none⟩,
  ⟨some 17, .mov (.t 107), [5, 6, 0, 1, 2, 3, 4, 5, 6], none⟩]
def r5_18 : List AR := [⟨some 108, .mov (.t 17), [], none⟩,
  ⟨some 109, .bin .eql (.t 108) (.c (.int .i64 0)), [0], none⟩,
  ⟨some 110, .mov (.t 109), [1], none⟩,
  ⟨some 111, .mov (.t 16), [2], some (110, true)⟩,
  ⟨some 112, .mov (.t 7), [2], some (110, true)⟩,
  ⟨some 113, .mov (.t 2), [2], some (110, true)⟩,
  ⟨some 114, .call 23 [.t 112, .t 113], [4, 5, 2, 2], some (110, true)⟩,
  ⟨some 115, .call 22 [.t 111, .t 114], [3, 6, 6, 2], some (110, true)⟩,
  ⟨some 116, .pick (.t 110) (.t 115) (.c (.bool false)), [2, 7], none⟩,
  ⟨some 6, .mov (.t 116), [8, 7, 0, 1, 2, 3, 4, 5, 6, 7, 8], none⟩]
def c5 : ACode := .seq (.reg r5_0 false) (.seq (.seq (.reg r5_1 false) (.cond (.t 19) (.seq (.reg r5_2 false) (.ret)) (.skip))) (.seq (.reg r5_3 false) (.seq (.seq (.reg r5_4 false) (.cond (.t 28) (.seq (.reg r5_5 false) (.seq (.reg r5_6 false) (.seq (.reg r5_7 false) (.ret)))) (.skip))) (.seq (.seq (.reg r5_8 false) (.blk 0 (.loop (.seq (.seq (.reg r5_9 false) (.cond (.t 60) (.skip) (.exit 0))) (.seq (.blk 1 (.seq (.reg r5_10 false) (.blk 2 (.loop (.seq (.seq (.reg r5_11 false) (.cond (.t 70) (.skip) (.exit 2))) (.seq (.blk 3 (.seq (.reg r5_12 false) (.seq (.reg r5_13 true) (.cond (.t 101) (.seq (.reg r5_14 false) (.ret)) (.skip))))) (.reg r5_15 false))))))) (.reg r5_16 false)))))) (.seq (.reg r5_17 false) (.seq (.reg r5_18 false) (.ret)))))))
theorem body5 : Try.f5.body.map (comp Try.prog 117) = some c5 := by kernel_rfl
theorem res5 : allSome (Try.f5.results.toList.map (compRes Try.prog)) = some [.s 6] := by kernel_rfl
theorem cok5 {S : FSpec} (h : ∀ args K, S args K → args.all argOk = true ∧ args.length ≤ 117 ∧ AW Try.prog 117 (some ownP) c5 (initS args) (retPost [.s 6] args K)) : COK Try.prog 5 S := of_body Try.func5 Try.ntmps5 body5 res5 h

def J5_2 (K : Bool → Prop) (v3894 : Bool) : Prop :=
  K v3894

def J5_5 (K : Bool → Prop) (N4624 : Int → Prop) (v4603 : Int) (v4643 : Bool) : Prop :=
  Cond v4643 (K false) (N4624 (w64 (v4603 + 1)))

def L5_4 (r3876 : (List TTrace)) (v4395 : Int) (level_5 : Int) (K : Bool → Prop) (N4520 : Int → Prop) (v4603 : Int) (N4624 : Int → Prop) : Prop :=
  Idx r3876 v4395 fun x4628 => Cond (decide (v4603 < (x4628.spans.length : Int))) (Idx x4628.spans v4603 fun x4639 => W20 x4639 level_5 fun r4640 => Cond (decide (¬ r4640.2 = 0)) (J5_5 K N4624 v4603 true) (W21 x4639 level_5 fun r4644 => J5_5 K N4624 v4603 (!(decide (r4640.1.service = r4644.service) && (decide (r4640.1.version = r4644.version) && (decide (r4640.1.operation = r4644.operation) && true)))))) (N4520 (w64 (v4395 + 1)))

def J5_6 (K : Bool → Prop) (v17733 : Bool) : Prop :=
  K v17733

def L5_3 (r3876 : (List TTrace)) (level_5 : Int) (K : Bool → Prop) (v4395 : Int) (N4520 : Int → Prop) : Prop :=
  Cond (decide (v4395 < (r3876.length : Int))) (LoopW (fun (s : Int) N4624 => L5_4 r3876 v4395 level_5 K N4520 s N4624) 0) (W14 r3876 level_5 fun r4646 => Cond (decide (r4646.2 = 0)) (W23 r3876 level_5 fun r17734 => W22 r4646.1 r17734 fun r17735 => J5_6 K r17735) (J5_6 K false))

def J5_1 (r3876 : (List TTrace)) (level_5 : Int) (K : Bool → Prop) (v3889 : Bool) : Prop :=
  Cond v3889 (W14 r3876 level_5 fun r3891 => W20 (TSpan.mk 0 0 0 0 0 0 (⟨#[115]⟩ : ByteArray) (⟨#[]⟩ : ByteArray) (⟨#[]⟩ : ByteArray) 0 0 false [] []) level_5 fun r3893 => Cond (decide (r3891.2 = 12)) (Cond (decide ((r3891.1.length : Int) = 0)) (Cond (decide (r3893.2 = 12)) (J5_2 K (decide (r3893.1.service = (⟨#[]⟩ : ByteArray)) && (decide (r3893.1.version = (⟨#[]⟩ : ByteArray)) && (decide (r3893.1.operation = (⟨#[]⟩ : ByteArray)) && true)))) (J5_2 K false)) (J5_2 K false)) (J5_2 K false)) (LoopW (fun (s : Int) N4520 => L5_3 r3876 level_5 K s N4520) 0)

/-- sleuth/sleuthlaw25.EstimateGroups -/
def W5 (s_5 : TStory) (weights_5 : TA28) (level_5 : Int) (K : Bool → Prop) : Prop :=
  W12  fun r2371 => Cond (!r2371) (K false) (W13 s_5 weights_5 fun r3876 => Cond (decide (level_5 < 1)) (J5_1 r3876 level_5 K true) (J5_1 r3876 level_5 K (decide (level_5 > 3))))

def S5 : FSpec := fun args K => ∃ (s_5 : TStory), ∃ (weights_5 : TA28), ∃ (level_5 : Int), ∃ (Kr : Bool → Prop), args = [.agg (List.map RC.d (TStory.enc s_5)), .agg (List.map RC.d (TA28.enc weights_5)), .one (.d (.int .i64 level_5))] ∧ W5 s_5 weights_5 level_5 Kr ∧ ∀ r, Kr r → K (.one (.d (.bool r))) []

theorem en5 : enters Try.prog 5 = true := by unfold enters; rw [Try.func5]; rfl
theorem cl5 (s_5 : TStory) (weights_5 : TA28) (level_5 : Int) {Kr : Bool → Prop} (h : W5 s_5 weights_5 level_5 Kr) : S5 [.agg (List.map RC.d (TStory.enc s_5)), .agg (List.map RC.d (TA28.enc weights_5)), .one (.d (.int .i64 level_5))] (fun rv rows => ∃ r, rv = (.one (.d (.bool r))) ∧ rows = [] ∧ Kr r) := ⟨s_5, weights_5, level_5, Kr, rfl, h, fun r hr => ⟨r, rfl, rfl, hr⟩⟩

theorem ok5 : COK Try.prog 5 S5 := by
  refine cok5 fun args K0 hS => ?_
  obtain ⟨s_5, weights_5, level_5, K, rfl, h, hK⟩ := hS
  refine ⟨by kernel_rfl, by simp, ?_⟩
  unfold W5 at h
  refine AW.sregL [(0, none), (1, none), (2, none)] (by kernel_rfl) ?_
  refine l_det (some 3) (.one (.ref 3 1 0 0), [(3, 1, .row true 27 7 [[.d (.sl (List.map TTree.enc s_5.trees)), .d (.int .i8 s_5.offsets.e0), .d (.int .i8 s_5.offsets.e1), .d (.int .i8 s_5.offsets.e2), .d (.int .i8 s_5.offsets.e3), .d (.sl (List.map TSync.enc s_5.syncs)), .d (.int .u8 s_5.wrong)]])]) (by kernel_rfl) ?_
  refine l_det (some 4) (.one (.ref 4 1 0 0), [(4, 1, .row true 28 3 [[.d (.int .u8 weights_5.e0), .d (.int .u8 weights_5.e1), .d (.int .u8 weights_5.e2)]])]) (by kernel_rfl) ?_
  refine l_det (some 6) (.one (.d (.bool false)), []) (by kernel_rfl) ?_
  refine l_nil ?_
  refine AW.seq ?_
  refine AW.sregL [(0, none), (1, none)] (by kernel_rfl) ?_
  refine l_call ok12 en12 (some 18) [] [] [] [] (by kernel_rfl) ⟨by kernel_rfl, by kernel_rfl⟩ (by kernel_rfl) (by kernel_rfl) (by kernel_rfl) (cl12  h) ?_
  rintro hR _ _ ⟨r2371, rfl, rfl, h⟩
  refine ⟨false, (.one (.d (.bool r2371)), []), (fun hz => (by cases hz)), (ret_R hR (by kernel_rfl)), ?_⟩
  refine l_det (some 19) (.one (.d (.bool (!r2371))), []) (by kernel_rfl) ?_
  refine l_nil ?_
  refine AW.cond' (by kernel_rfl) h (fun h => ?_) (fun h => ?_)
  · refine AW.sregL [(0, none)] (by kernel_rfl) ?_
    refine l_det (some 6) (.one (.d (.bool false)), []) (by kernel_rfl) ?_
    refine l_nil ?_
    refine AW.ret ?_
    refine q_ret ?_
    exact q_end [.one (.d (.bool false))] [false] [.one (.d (.bool false))] [] [] (by kernel_rfl) ⟨by kernel_rfl, by kernel_rfl⟩ (by kernel_rfl) (by kernel_rfl) (by kernel_rfl) (by kernel_rfl) (Eq.mp (by kernel_rfl) (hK false h)) (.inr rfl)
  · refine AW.skip ?_
    refine q_fall ?_
    refine AW.sregL [(0, none), (1, none), (2, none), (3, none)] (by kernel_rfl) ?_
    refine l_det (some 20) (.agg [.d (.sl (List.map TTree.enc s_5.trees)), .d (.int .i8 s_5.offsets.e0), .d (.int .i8 s_5.offsets.e1), .d (.int .i8 s_5.offsets.e2), .d (.int .i8 s_5.offsets.e3), .d (.sl (List.map TSync.enc s_5.syncs)), .d (.int .u8 s_5.wrong)], []) (by kernel_rfl) ?_
    refine l_det (some 21) (.agg [.d (.int .u8 weights_5.e0), .d (.int .u8 weights_5.e1), .d (.int .u8 weights_5.e2)], []) (by kernel_rfl) ?_
    refine l_call ok13 en13 (some 22) [.agg [.d (.sl (List.map TTree.enc s_5.trees)), .d (.int .i8 s_5.offsets.e0), .d (.int .i8 s_5.offsets.e1), .d (.int .i8 s_5.offsets.e2), .d (.int .i8 s_5.offsets.e3), .d (.sl (List.map TSync.enc s_5.syncs)), .d (.int .u8 s_5.wrong)], .agg [.d (.int .u8 weights_5.e0), .d (.int .u8 weights_5.e1), .d (.int .u8 weights_5.e2)]] [false, false] [.agg (List.map RC.d [.sl (List.map TTree.enc s_5.trees), .int .i8 s_5.offsets.e0, .int .i8 s_5.offsets.e1, .int .i8 s_5.offsets.e2, .int .i8 s_5.offsets.e3, .sl (List.map TSync.enc s_5.syncs), .int .u8 s_5.wrong]), .agg (List.map RC.d [.int .u8 weights_5.e0, .int .u8 weights_5.e1, .int .u8 weights_5.e2])] [] (by kernel_rfl) ⟨by kernel_rfl, by kernel_rfl⟩ (by kernel_rfl) (by kernel_rfl) (by kernel_rfl) (cl13 s_5 weights_5 h) ?_
    rintro hR _ _ ⟨r3876, rfl, rfl, h⟩
    refine ⟨false, (.one (.view 22 1 0 ((List.map TTrace.enc r3876).length)), [(22, 1, .row true 53 3 (dmm (List.map TTrace.enc r3876)))]), (fun hz => (by cases hz)), (ret_R hR (by kernel_rfl)), ?_⟩
    refine l_det (some 7) (.one (.view 22 1 0 ((List.map TTrace.enc r3876).length)), []) (by kernel_rfl) ?_
    refine l_nil ?_
    refine AW.seq ?_
    refine AW.seqL (S := Bool) (fun s => (fun (v3889 : Bool) => [(2, .one (.d (.int .i64 level_5))), (7, .one (.view 200001 0 0 ((List.map TTrace.enc r3876).length))), (28, .one (.d (.bool v3889)))]) s) (fun s => (fun (v3889 : Bool) => [(200001, .pure true 53 3 (List.map TTrace.enc r3876))]) s) (fun s : Bool => J5_1 r3876 level_5 K s) ?_ ?_
    · refine AW.regL [(0, none), (1, none), (2, none), (3, none), (4, none), (5, none)] (by kernel_rfl) ?_
      refine l_det (some 23) (.one (.d (.int .i64 level_5)), []) (by kernel_rfl) ?_
      refine l_det (some 24) (.one (.d (.bool (decide (level_5 < 1)))), []) (by kernel_rfl) ?_
      refine l_det (some 25) (.one (.d (.bool (decide (level_5 < 1)))), []) (by kernel_rfl) ?_
      refine l_split (s := 25) (by kernel_rfl) h (fun h => ?_) (fun h => ?_)
      · refine l_det (some 26) (.tup [], []) (by kernel_rfl) ?_
        refine l_det (some 27) (.tup [], []) (by kernel_rfl) ?_
        refine l_det (some 28) (.one (.d (.bool true)), []) (by kernel_rfl) ?_
        refine l_nil ?_
        refine q_fall ?_
        exact Lab.mk true [(200001, some 22)] (by kernel_rfl) (by kernel_rfl) (by kernel_rfl) (by kernel_rfl) h
      · refine l_det (some 26) (.one (.d (.int .i64 level_5)), []) (by kernel_rfl) ?_
        refine l_det (some 27) (.one (.d (.bool (decide (level_5 > 3)))), []) (by kernel_rfl) ?_
        refine l_det (some 28) (.one (.d (.bool (decide (level_5 > 3)))), []) (by kernel_rfl) ?_
        refine l_nil ?_
        refine q_fall ?_
        exact Lab.mk (decide (level_5 > 3)) [(200001, some 22)] (by kernel_rfl) (by kernel_rfl) (by kernel_rfl) (by kernel_rfl) h
    · rintro v3889 h
      have h : J5_1 r3876 level_5 K v3889 := h
      unfold J5_1 at h
      refine AW.cond' (by kernel_rfl) h (fun h => ?_) (fun h => ?_)
      · refine AW.sregL [(0, none), (1, none), (2, none), (3, none), (4, none), (5, none), (6, none), (7, none)] (by kernel_rfl) ?_
        refine l_det (some 30) (.one (.view 200001 0 0 ((List.map TTrace.enc r3876).length)), []) (by kernel_rfl) ?_
        refine l_det (some 31) (.one (.d (.int .i64 level_5)), []) (by kernel_rfl) ?_
        refine l_call ok14 en14 (some 32) [.one (.view 200001 0 0 ((List.map TTrace.enc r3876).length)), .one (.d (.int .i64 level_5))] [false, false] [.one (.d (.sl (List.map TTrace.enc r3876))), .one (.d (.int .i64 level_5))] [200001] (by kernel_rfl) (ps_plain (pv_one (pf_view (E := 53) (sz := 3) (l := true) (List.map TTrace.enc r3876) (by kernel_rfl) (by kernel_rfl) rfl)) (ps_plain (pv_one pf_d) ps_nil)) (by kernel_rfl) (by kernel_rfl) (by kernel_rfl) (cl14 r3876 level_5 h) ?_
        rintro hR _ _ ⟨r3891, rfl, rfl, h⟩
        refine ⟨false, (.tup [.one (.view 32 1 0 ((List.map TLine.enc r3891.1).length)), .one (.d (.int .i64 r3891.2))], [(200001, 0, .row false 53 3 (dmm (List.map TTrace.enc r3876))), (32, 1, .row true 41 7 (dmm (List.map TLine.enc r3891.1)))]), (fun hz => (by cases hz)), (ret_R hR (by kernel_rfl)), ?_⟩
        refine l_det (some 29) (.tup [.one (.view 32 1 0 ((List.map TLine.enc r3891.1).length)), .one (.d (.int .i64 r3891.2))], []) (by kernel_rfl) ?_
        refine l_det (some 33) (.one (.view 32 1 0 ((List.map TLine.enc r3891.1).length)), []) (by kernel_rfl) ?_
        refine l_det (some 34) (.one (.d (.int .i64 r3891.2)), []) (by kernel_rfl) ?_
        refine l_det (some 8) (.one (.view 32 1 0 ((List.map TLine.enc r3891.1).length)), []) (by kernel_rfl) ?_
        refine l_det (some 9) (.one (.d (.int .i64 r3891.2)), []) (by kernel_rfl) ?_
        refine l_nil ?_
        refine AW.sregL [(0, none), (1, none), (2, none), (3, none), (4, none), (5, none), (6, none), (7, none), (8, none)] (by kernel_rfl) ?_
        refine l_det (some 36) (.agg [.d (.int .i64 0), .d (.int .i64 0), .d (.int .i64 0), .d (.int .i64 0), .d (.int .i64 0), .d (.int .i64 0), .d (.str (⟨#[115]⟩ : ByteArray)), .d (.str (⟨#[]⟩ : ByteArray)), .d (.str (⟨#[]⟩ : ByteArray)), .d (.int .i64 0), .d (.int .i64 0), .d (.bool false), .nils, .nils], []) (by kernel_rfl) ?_
        refine l_det (some 37) (.one (.d (.int .i64 level_5)), []) (by kernel_rfl) ?_
        refine l_call ok20 en20 (some 38) [.agg [.d (.int .i64 0), .d (.int .i64 0), .d (.int .i64 0), .d (.int .i64 0), .d (.int .i64 0), .d (.int .i64 0), .d (.str (⟨#[115]⟩ : ByteArray)), .d (.str (⟨#[]⟩ : ByteArray)), .d (.str (⟨#[]⟩ : ByteArray)), .d (.int .i64 0), .d (.int .i64 0), .d (.bool false), .nils, .nils], .one (.d (.int .i64 level_5))] [false, false] [.agg (List.map RC.d [.int .i64 0, .int .i64 0, .int .i64 0, .int .i64 0, .int .i64 0, .int .i64 0, .str (⟨#[115]⟩ : ByteArray), .str (⟨#[]⟩ : ByteArray), .str (⟨#[]⟩ : ByteArray), .int .i64 0, .int .i64 0, .bool false, .sl [], .sl []]), .one (.d (.int .i64 level_5))] [] (by kernel_rfl) ⟨by kernel_rfl, by kernel_rfl⟩ (by kernel_rfl) (by kernel_rfl) (by kernel_rfl) (cl20 (TSpan.mk 0 0 0 0 0 0 (⟨#[115]⟩ : ByteArray) (⟨#[]⟩ : ByteArray) (⟨#[]⟩ : ByteArray) 0 0 false [] []) level_5 h) ?_
        rintro hR _ _ ⟨r3893, rfl, rfl, h⟩
        refine ⟨false, (.tup [.agg [.d (.str r3893.1.service), .d (.str r3893.1.version), .d (.str r3893.1.operation)], .one (.d (.int .i64 r3893.2))], []), (fun hz => (by cases hz)), (ret_R hR (by kernel_rfl)), ?_⟩
        refine l_det (some 35) (.tup [.agg [.d (.str r3893.1.service), .d (.str r3893.1.version), .d (.str r3893.1.operation)], .one (.d (.int .i64 r3893.2))], []) (by kernel_rfl) ?_
        refine l_det (some 39) (.agg [.d (.str r3893.1.service), .d (.str r3893.1.version), .d (.str r3893.1.operation)], []) (by kernel_rfl) ?_
        refine l_det (some 40) (.one (.d (.int .i64 r3893.2)), []) (by kernel_rfl) ?_
        refine l_det (some 10) (.one (.ref 10 1 0 0), [(10, 1, .row true 39 3 [[.d (.str (⟨#[]⟩ : ByteArray)), .d (.str (⟨#[]⟩ : ByteArray)), .d (.str (⟨#[]⟩ : ByteArray))]])]) (by kernel_rfl) ?_
        refine l_det none (.tup [], [(10, 1, .row true 39 3 [[.d (.str r3893.1.service), .d (.str r3893.1.version), .d (.str r3893.1.operation)]])]) (by kernel_rfl) ?_
        refine l_det (some 11) (.one (.d (.int .i64 r3893.2)), []) (by kernel_rfl) ?_
        refine l_nil ?_
        refine AW.seqL (S := Bool) (fun s => (fun (v3894 : Bool) => [(6, .one (.d (.bool v3894)))]) s) (fun s => (fun (v3894 : Bool) => []) s) (fun s : Bool => J5_2 K s) ?_ ?_
        · refine AW.regL [(0, none), (1, none), (2, none), (3, none), (4, none), (5, none), (6, none), (7, none), (8, none), (9, none), (10, none), (11, none), (12, none), (13, none), (14, none), (15, none), (16, none)] (by kernel_rfl) ?_
          refine l_det (some 41) (.one (.d (.int .i64 r3891.2)), []) (by kernel_rfl) ?_
          refine l_det (some 42) (.one (.d (.bool (decide (r3891.2 = 12)))), []) (by kernel_rfl) ?_
          refine l_det (some 43) (.one (.d (.bool (decide (r3891.2 = 12)))), []) (by kernel_rfl) ?_
          refine l_split (s := 43) (by kernel_rfl) h (fun h => ?_) (fun h => ?_)
          · refine l_det (some 44) (.one (.view 32 1 0 ((List.map TLine.enc r3891.1).length)), []) (by kernel_rfl) ?_
            refine l_spec (some 45) (.lens (.t 44)) (.one (.d (.int .i64 (r3891.1.length : Int))), []) (by kernel_rfl) (detA_none (d_lens_v (enc := TLine.enc) (o := 32) (g := 1) r3891.1 (by kernel_rfl))) ?_
            refine l_det (some 46) (.one (.d (.bool (decide ((r3891.1.length : Int) = 0)))), []) (by kernel_rfl) ?_
            refine l_det (some 47) (.one (.d (.bool (decide ((r3891.1.length : Int) = 0)))), []) (by kernel_rfl) ?_
            refine l_det (some 48) (.one (.d (.bool (decide ((r3891.1.length : Int) = 0)))), []) (by kernel_rfl) ?_
            refine l_split (s := 48) (by kernel_rfl) h (fun h => ?_) (fun h => ?_)
            · refine l_det (some 49) (.one (.d (.int .i64 r3893.2)), []) (by kernel_rfl) ?_
              refine l_det (some 50) (.one (.d (.bool (decide (r3893.2 = 12)))), []) (by kernel_rfl) ?_
              refine l_det (some 51) (.one (.d (.bool (decide (r3893.2 = 12)))), []) (by kernel_rfl) ?_
              refine l_det (some 52) (.one (.d (.bool (decide (r3893.2 = 12)))), []) (by kernel_rfl) ?_
              refine l_split (s := 52) (by kernel_rfl) h (fun h => ?_) (fun h => ?_)
              · refine l_det (some 53) (.agg [.d (.str r3893.1.service), .d (.str r3893.1.version), .d (.str r3893.1.operation)], []) (by kernel_rfl) ?_
                refine l_det (some 54) (.agg [.d (.str (⟨#[]⟩ : ByteArray)), .d (.str (⟨#[]⟩ : ByteArray)), .d (.str (⟨#[]⟩ : ByteArray))], []) (by kernel_rfl) ?_
                refine l_det (some 55) (.one (.d (.bool (decide (r3893.1.service = (⟨#[]⟩ : ByteArray)) && (decide (r3893.1.version = (⟨#[]⟩ : ByteArray)) && (decide (r3893.1.operation = (⟨#[]⟩ : ByteArray)) && true))))), []) (by kernel_rfl) ?_
                refine l_det (some 56) (.one (.d (.bool (decide (r3893.1.service = (⟨#[]⟩ : ByteArray)) && (decide (r3893.1.version = (⟨#[]⟩ : ByteArray)) && (decide (r3893.1.operation = (⟨#[]⟩ : ByteArray)) && true))))), []) (by kernel_rfl) ?_
                refine l_det (some 6) (.one (.d (.bool (decide (r3893.1.service = (⟨#[]⟩ : ByteArray)) && (decide (r3893.1.version = (⟨#[]⟩ : ByteArray)) && (decide (r3893.1.operation = (⟨#[]⟩ : ByteArray)) && true))))), []) (by kernel_rfl) ?_
                refine l_nil ?_
                refine q_fall ?_
                exact Lab.mk (decide (r3893.1.service = (⟨#[]⟩ : ByteArray)) && (decide (r3893.1.version = (⟨#[]⟩ : ByteArray)) && (decide (r3893.1.operation = (⟨#[]⟩ : ByteArray)) && true))) [] (by kernel_rfl) (by kernel_rfl) (by kernel_rfl) (by kernel_rfl) h
              · refine l_det (some 53) (.tup [], []) (by kernel_rfl) ?_
                refine l_det (some 54) (.tup [], []) (by kernel_rfl) ?_
                refine l_det (some 55) (.tup [], []) (by kernel_rfl) ?_
                refine l_det (some 56) (.one (.d (.bool false)), []) (by kernel_rfl) ?_
                refine l_det (some 6) (.one (.d (.bool false)), []) (by kernel_rfl) ?_
                refine l_nil ?_
                refine q_fall ?_
                exact Lab.mk false [] (by kernel_rfl) (by kernel_rfl) (by kernel_rfl) (by kernel_rfl) h
            · refine l_det (some 49) (.tup [], []) (by kernel_rfl) ?_
              refine l_det (some 50) (.tup [], []) (by kernel_rfl) ?_
              refine l_det (some 51) (.one (.d (.bool false)), []) (by kernel_rfl) ?_
              refine l_det (some 52) (.one (.d (.bool false)), []) (by kernel_rfl) ?_
              refine l_det (some 53) (.tup [], []) (by kernel_rfl) ?_
              refine l_det (some 54) (.tup [], []) (by kernel_rfl) ?_
              refine l_det (some 55) (.tup [], []) (by kernel_rfl) ?_
              refine l_det (some 56) (.one (.d (.bool false)), []) (by kernel_rfl) ?_
              refine l_det (some 6) (.one (.d (.bool false)), []) (by kernel_rfl) ?_
              refine l_nil ?_
              refine q_fall ?_
              exact Lab.mk false [] (by kernel_rfl) (by kernel_rfl) (by kernel_rfl) (by kernel_rfl) h
          · refine l_det (some 44) (.tup [], []) (by kernel_rfl) ?_
            refine l_det (some 45) (.tup [], []) (by kernel_rfl) ?_
            refine l_det (some 46) (.tup [], []) (by kernel_rfl) ?_
            refine l_det (some 47) (.one (.d (.bool false)), []) (by kernel_rfl) ?_
            refine l_det (some 48) (.one (.d (.bool false)), []) (by kernel_rfl) ?_
            refine l_det (some 49) (.tup [], []) (by kernel_rfl) ?_
            refine l_det (some 50) (.tup [], []) (by kernel_rfl) ?_
            refine l_det (some 51) (.one (.d (.bool false)), []) (by kernel_rfl) ?_
            refine l_det (some 52) (.one (.d (.bool false)), []) (by kernel_rfl) ?_
            refine l_det (some 53) (.tup [], []) (by kernel_rfl) ?_
            refine l_det (some 54) (.tup [], []) (by kernel_rfl) ?_
            refine l_det (some 55) (.tup [], []) (by kernel_rfl) ?_
            refine l_det (some 56) (.one (.d (.bool false)), []) (by kernel_rfl) ?_
            refine l_det (some 6) (.one (.d (.bool false)), []) (by kernel_rfl) ?_
            refine l_nil ?_
            refine q_fall ?_
            exact Lab.mk false [] (by kernel_rfl) (by kernel_rfl) (by kernel_rfl) (by kernel_rfl) h
        · rintro v3894 h
          have h : J5_2 K v3894 := h
          unfold J5_2 at h
          refine AW.ret ?_
          refine q_ret ?_
          exact q_end [.one (.d (.bool v3894))] [false] [.one (.d (.bool v3894))] [] [] (by kernel_rfl) ⟨by kernel_rfl, by kernel_rfl⟩ (by kernel_rfl) (by kernel_rfl) (by kernel_rfl) (by kernel_rfl) (Eq.mp (by kernel_rfl) (hK v3894 h)) (.inr rfl)
      · refine AW.skip ?_
        refine q_fall ?_
        refine AW.seq ?_
        refine AW.sregL [(0, none)] (by kernel_rfl) ?_
        refine l_det (some 12) (.one (.d (.int .i64 0)), []) (by kernel_rfl) ?_
        refine l_nil ?_
        refine AW.blk ?_
        refine AW.loopL (S := Int) (fun s => (fun (v4395 : Int) => [(2, .one (.d (.int .i64 level_5))), (7, .one (.view 200001 0 0 ((List.map TTrace.enc r3876).length))), (12, .one (.d (.int .i64 v4395)))]) s) (fun s => (fun (v4395 : Int) => [(200001, .pure true 53 3 (List.map TTrace.enc r3876))]) s) (fun (s : Int) N4520 => L5_3 r3876 level_5 K s N4520) (N := fun s => LoopW (fun (s : Int) N4520 => L5_3 r3876 level_5 K s N4520) s) (Lab.mk 0 [(200001, some 200001)] (by kernel_rfl) (by kernel_rfl) (by kernel_rfl) (by kernel_rfl) h) (fun _ h => h) ?_
        rintro v4395 N4520 h
        have h : L5_3 r3876 level_5 K v4395 N4520 := h
        unfold L5_3 at h
        refine AW.seq ?_
        refine AW.sregL [(0, none), (1, none), (2, none), (3, none)] (by kernel_rfl) ?_
        refine l_det (some 57) (.one (.d (.int .i64 v4395)), []) (by kernel_rfl) ?_
        refine l_det (some 58) (.one (.view 200001 0 0 ((List.map TTrace.enc r3876).length)), []) (by kernel_rfl) ?_
        refine l_spec (some 59) (.lens (.t 58)) (.one (.d (.int .i64 (r3876.length : Int))), []) (by kernel_rfl) (detA_none (d_lens_v (enc := TTrace.enc) (o := 200001) (g := 0) r3876 (by kernel_rfl))) ?_
        refine l_det (some 60) (.one (.d (.bool (decide (v4395 < (r3876.length : Int))))), []) (by kernel_rfl) ?_
        refine l_nil ?_
        refine AW.cond' (by kernel_rfl) h (fun h => ?_) (fun h => ?_)
        · refine AW.skip ?_
          refine q_fall ?_
          refine AW.seq ?_
          refine AW.blk ?_
          refine AW.sregL [(0, none)] (by kernel_rfl) ?_
          refine l_det (some 13) (.one (.d (.int .i64 0)), []) (by kernel_rfl) ?_
          refine l_nil ?_
          refine AW.blk ?_
          refine AW.loopL (S := Int) (fun s => (fun (v4603 : Int) => [(2, .one (.d (.int .i64 level_5))), (7, .one (.view 200001 0 0 ((List.map TTrace.enc r3876).length))), (12, .one (.d (.int .i64 v4395))), (13, .one (.d (.int .i64 v4603)))]) s) (fun s => (fun (v4603 : Int) => [(200001, .pure true 53 3 (List.map TTrace.enc r3876))]) s) (fun (s : Int) N4624 => L5_4 r3876 v4395 level_5 K N4520 s N4624) (N := fun s => LoopW (fun (s : Int) N4624 => L5_4 r3876 v4395 level_5 K N4520 s N4624) s) (Lab.mk 0 [(200001, some 200001)] (by kernel_rfl) (by kernel_rfl) (by kernel_rfl) (by kernel_rfl) h) (fun _ h => h) ?_
          rintro v4603 N4624 h
          have h : L5_4 r3876 v4395 level_5 K N4520 v4603 N4624 := h
          unfold L5_4 at h
          refine AW.seq ?_
          refine AW.sregL [(0, none), (1, none), (2, none), (3, none), (4, none), (5, none), (6, none), (7, none)] (by kernel_rfl) ?_
          refine l_det (some 63) (.one (.d (.int .i64 v4603)), []) (by kernel_rfl) ?_
          refine l_det (some 64) (.one (.view 200001 0 0 ((List.map TTrace.enc r3876).length)), []) (by kernel_rfl) ?_
          refine l_det (some 65) (.one (.d (.int .i64 v4395)), []) (by kernel_rfl) ?_
          obtain ⟨h931, x4628, h932, h⟩ := h
          refine l_spec (some 66) (.iad 3 (.t 64) (.t 65)) (.one (.ref 200001 0 v4395.toNat 0), []) (by kernel_rfl) (detA_none (d_iad_v (enc := TTrace.enc) (k := .i64) (E := 53) (l := true) (ys := dmm (List.map TTrace.enc r3876)) r3876 x4628 (by kernel_rfl) (by kernel_rfl) (by kernel_rfl) (by kernel_rfl) h931 h932)) ?_
          refine l_det (some 67) (.one (.ref 200001 0 v4395.toNat 2), []) (by kernel_rfl) ?_
          refine l_spec (some 68) (.ld false 1 (.t 67)) (.one (.d (.sl (List.map TSpan.enc x4628.spans))), []) (by kernel_rfl) (detA_none (d_ld_row (enc := TTrace.enc) (o := 200001) (g := 0) (i := v4395.toNat) (off := 2) (E := 53) (sz := 3) (l := true) r3876 x4628 (by kernel_rfl) (by kernel_rfl) (by kernel_rfl) h932 (by kernel_rfl))) ?_
          refine l_spec (some 69) (.lens (.t 68)) (.one (.d (.int .i64 (x4628.spans.length : Int))), []) (by kernel_rfl) (detA_none (d_lens_sl (enc := TSpan.enc) x4628.spans (by kernel_rfl))) ?_
          refine l_det (some 70) (.one (.d (.bool (decide (v4603 < (x4628.spans.length : Int))))), []) (by kernel_rfl) ?_
          refine l_nil ?_
          refine AW.cond' (by kernel_rfl) h (fun h => ?_) (fun h => ?_)
          · refine AW.skip ?_
            refine q_fall ?_
            refine AW.seq ?_
            refine AW.blk ?_
            refine AW.sregL [(0, none), (1, none), (2, none), (3, none), (4, none), (5, none), (6, none), (7, none), (8, none), (9, none), (10, none), (11, none), (12, none), (13, none), (14, none), (15, none)] (by kernel_rfl) ?_
            refine l_det (some 74) (.one (.view 200001 0 0 ((List.map TTrace.enc r3876).length)), []) (by kernel_rfl) ?_
            refine l_det (some 75) (.one (.d (.int .i64 v4395)), []) (by kernel_rfl) ?_
            refine l_spec (some 76) (.iad 3 (.t 74) (.t 75)) (.one (.ref 200001 0 v4395.toNat 0), []) (by kernel_rfl) (detA_none (d_iad_v (enc := TTrace.enc) (k := .i64) (E := 53) (l := true) (ys := dmm (List.map TTrace.enc r3876)) r3876 x4628 (by kernel_rfl) (by kernel_rfl) (by kernel_rfl) (by kernel_rfl) h931 h932)) ?_
            refine l_det (some 77) (.one (.ref 200001 0 v4395.toNat 2), []) (by kernel_rfl) ?_
            refine l_spec (some 78) (.ld false 1 (.t 77)) (.one (.d (.sl (List.map TSpan.enc x4628.spans))), []) (by kernel_rfl) (detA_none (d_ld_row (enc := TTrace.enc) (o := 200001) (g := 0) (i := v4395.toNat) (off := 2) (E := 53) (sz := 3) (l := true) r3876 x4628 (by kernel_rfl) (by kernel_rfl) (by kernel_rfl) h932 (by kernel_rfl))) ?_
            refine l_det (some 79) (.one (.d (.int .i64 v4603)), []) (by kernel_rfl) ?_
            obtain ⟨h945, x4639, h946, h⟩ := h
            refine l_spec (some 80) (.iad 14 (.t 78) (.t 79)) (.one (.d (.ptr [.int .i64 x4639.trace, .int .i64 x4639.id, .int .i64 x4639.parent, .int .i64 x4639.revision, .int .i64 x4639.clock, .int .i64 x4639.kind, .str x4639.service, .str x4639.version, .str x4639.operation, .int .i64 x4639.start, .int .i64 x4639.end_, .bool x4639.error, .sl (List.map TAttr.enc x4639.attrs), .sl (List.map TRef.enc x4639.links)])), []) (by kernel_rfl) (detA_none (d_iad_sl (enc := TSpan.enc) (k := .i64) x4628.spans x4639 (by kernel_rfl) (by kernel_rfl) h945 h946 rfl)) ?_
            refine l_det (some 81) (.agg [.d (.int .i64 x4639.trace), .d (.int .i64 x4639.id), .d (.int .i64 x4639.parent), .d (.int .i64 x4639.revision), .d (.int .i64 x4639.clock), .d (.int .i64 x4639.kind), .d (.str x4639.service), .d (.str x4639.version), .d (.str x4639.operation), .d (.int .i64 x4639.start), .d (.int .i64 x4639.end_), .d (.bool x4639.error), .d (.sl (List.map TAttr.enc x4639.attrs)), .d (.sl (List.map TRef.enc x4639.links))], []) (by kernel_rfl) ?_
            refine l_det (some 82) (.one (.d (.int .i64 level_5)), []) (by kernel_rfl) ?_
            refine l_call ok20 en20 (some 83) [.agg [.d (.int .i64 x4639.trace), .d (.int .i64 x4639.id), .d (.int .i64 x4639.parent), .d (.int .i64 x4639.revision), .d (.int .i64 x4639.clock), .d (.int .i64 x4639.kind), .d (.str x4639.service), .d (.str x4639.version), .d (.str x4639.operation), .d (.int .i64 x4639.start), .d (.int .i64 x4639.end_), .d (.bool x4639.error), .d (.sl (List.map TAttr.enc x4639.attrs)), .d (.sl (List.map TRef.enc x4639.links))], .one (.d (.int .i64 level_5))] [false, false] [.agg (List.map RC.d [.int .i64 x4639.trace, .int .i64 x4639.id, .int .i64 x4639.parent, .int .i64 x4639.revision, .int .i64 x4639.clock, .int .i64 x4639.kind, .str x4639.service, .str x4639.version, .str x4639.operation, .int .i64 x4639.start, .int .i64 x4639.end_, .bool x4639.error, .sl (List.map TAttr.enc x4639.attrs), .sl (List.map TRef.enc x4639.links)]), .one (.d (.int .i64 level_5))] [] (by kernel_rfl) ⟨by kernel_rfl, by kernel_rfl⟩ (by kernel_rfl) (by kernel_rfl) (by kernel_rfl) (cl20 x4639 level_5 h) ?_
            rintro hR _ _ ⟨r4640, rfl, rfl, h⟩
            refine ⟨false, (.tup [.agg [.d (.str r4640.1.service), .d (.str r4640.1.version), .d (.str r4640.1.operation)], .one (.d (.int .i64 r4640.2))], []), (fun hz => (by cases hz)), (ret_R hR (by kernel_rfl)), ?_⟩
            refine l_det (some 73) (.tup [.agg [.d (.str r4640.1.service), .d (.str r4640.1.version), .d (.str r4640.1.operation)], .one (.d (.int .i64 r4640.2))], []) (by kernel_rfl) ?_
            refine l_det (some 84) (.agg [.d (.str r4640.1.service), .d (.str r4640.1.version), .d (.str r4640.1.operation)], []) (by kernel_rfl) ?_
            refine l_det (some 85) (.one (.d (.int .i64 r4640.2)), []) (by kernel_rfl) ?_
            refine l_det (some 14) (.one (.ref 14 1 0 0), [(14, 1, .row true 39 3 [[.d (.str (⟨#[]⟩ : ByteArray)), .d (.str (⟨#[]⟩ : ByteArray)), .d (.str (⟨#[]⟩ : ByteArray))]])]) (by kernel_rfl) ?_
            refine l_det none (.tup [], [(14, 1, .row true 39 3 [[.d (.str r4640.1.service), .d (.str r4640.1.version), .d (.str r4640.1.operation)]])]) (by kernel_rfl) ?_
            refine l_det (some 15) (.one (.d (.int .i64 r4640.2)), []) (by kernel_rfl) ?_
            refine l_nil ?_
            refine AW.seqL (S := Bool) (fun s => (fun (v4643 : Bool) => [(2, .one (.d (.int .i64 level_5))), (7, .one (.view 200001 0 0 ((List.map TTrace.enc r3876).length))), (12, .one (.d (.int .i64 v4395))), (13, .one (.d (.int .i64 v4603))), (101, .one (.d (.bool v4643)))]) s) (fun s => (fun (v4643 : Bool) => [(200001, .pure true 53 3 (List.map TTrace.enc r3876))]) s) (fun s : Bool => J5_5 K N4624 v4603 s) ?_ ?_
            · refine AW.regdL follows_mixed [[], [0], [0, 1], [0, 1, 2], [0, 1, 2], [0, 1, 2], [0, 1, 2, 4, 5], [0, 1, 2, 4, 5, 6], [0, 1, 2, 4, 5, 6, 7], [0, 1, 2], [0, 1, 2, 4, 5, 6, 7, 8, 9], [0, 1, 2, 4, 5, 6, 7, 8, 9, 10], [0, 1, 2], [0, 1, 2, 4, 5, 6, 7, 8, 9, 10, 11, 12], [0, 1, 2, 3, 4, 5, 6, 7, 8, 9, 10, 11, 12, 13], [0, 1, 2, 3, 4, 5, 6, 7, 8, 9, 10, 11, 12, 13, 14]] [(0, none), (1, none), (2, none), (3, some [89, 1000014]), (4, none), (5, none), (6, none), (7, none), (8, none), (9, none), (10, none), (11, none), (12, none), (13, some [99]), (14, none), (15, none)] (by kernel_rfl) ?_
              refine l_det (some 86) (.one (.d (.int .i64 r4640.2)), []) (by kernel_rfl) ?_
              refine l_det (some 87) (.one (.d (.bool (decide (¬ r4640.2 = 0)))), []) (by kernel_rfl) ?_
              refine l_det (some 88) (.one (.d (.bool (decide (¬ r4640.2 = 0)))), []) (by kernel_rfl) ?_
              refine l_split (s := 88) (by kernel_rfl) h (fun h => ?_) (fun h => ?_)
              · refine l_det (some 89) (.tup [], []) (by kernel_rfl) ?_
                refine l_det (some 90) (.tup [], []) (by kernel_rfl) ?_
                refine l_det (some 91) (.tup [], []) (by kernel_rfl) ?_
                refine l_det (some 92) (.tup [], []) (by kernel_rfl) ?_
                refine l_det (some 93) (.tup [], []) (by kernel_rfl) ?_
                refine l_det (some 94) (.tup [], []) (by kernel_rfl) ?_
                refine l_det (some 95) (.tup [], []) (by kernel_rfl) ?_
                refine l_det (some 96) (.tup [], []) (by kernel_rfl) ?_
                refine l_det (some 97) (.tup [], []) (by kernel_rfl) ?_
                refine l_det (some 98) (.tup [], []) (by kernel_rfl) ?_
                refine l_skip (some 99) (by kernel_rfl) (by kernel_rfl) (by kernel_rfl) ?_
                refine l_det (some 100) (.tup [], []) (by kernel_rfl) ?_
                refine l_det (some 101) (.one (.d (.bool true)), []) (by kernel_rfl) ?_
                refine l_nil ?_
                refine q_fall ?_
                exact Lab.mk true [(200001, some 200001)] (by kernel_rfl) (by kernel_rfl) (by kernel_rfl) (by kernel_rfl) h
              · refine l_det (some 89) (.agg [.d (.str r4640.1.service), .d (.str r4640.1.version), .d (.str r4640.1.operation)], []) (by kernel_rfl) ?_
                refine l_det (some 90) (.one (.view 200001 0 0 ((List.map TTrace.enc r3876).length)), []) (by kernel_rfl) ?_
                refine l_det (some 91) (.one (.d (.int .i64 v4395)), []) (by kernel_rfl) ?_
                refine l_spec (some 92) (.iad 3 (.t 90) (.t 91)) (.one (.ref 200001 0 v4395.toNat 0), []) (by kernel_rfl) (detA_none (d_iad_v (enc := TTrace.enc) (k := .i64) (E := 53) (l := true) (ys := dmm (List.map TTrace.enc r3876)) r3876 x4628 (by kernel_rfl) (by kernel_rfl) (by kernel_rfl) (by kernel_rfl) h931 h932)) ?_
                refine l_det (some 93) (.one (.ref 200001 0 v4395.toNat 2), []) (by kernel_rfl) ?_
                refine l_spec (some 94) (.ld false 1 (.t 93)) (.one (.d (.sl (List.map TSpan.enc x4628.spans))), []) (by kernel_rfl) (detA_none (d_ld_row (enc := TTrace.enc) (o := 200001) (g := 0) (i := v4395.toNat) (off := 2) (E := 53) (sz := 3) (l := true) r3876 x4628 (by kernel_rfl) (by kernel_rfl) (by kernel_rfl) h932 (by kernel_rfl))) ?_
                refine l_det (some 95) (.one (.d (.int .i64 v4603)), []) (by kernel_rfl) ?_
                refine l_spec (some 96) (.iad 14 (.t 94) (.t 95)) (.one (.d (.ptr [.int .i64 x4639.trace, .int .i64 x4639.id, .int .i64 x4639.parent, .int .i64 x4639.revision, .int .i64 x4639.clock, .int .i64 x4639.kind, .str x4639.service, .str x4639.version, .str x4639.operation, .int .i64 x4639.start, .int .i64 x4639.end_, .bool x4639.error, .sl (List.map TAttr.enc x4639.attrs), .sl (List.map TRef.enc x4639.links)])), []) (by kernel_rfl) (detA_none (d_iad_sl (enc := TSpan.enc) (k := .i64) x4628.spans x4639 (by kernel_rfl) (by kernel_rfl) h945 h946 rfl)) ?_
                refine l_det (some 97) (.agg [.d (.int .i64 x4639.trace), .d (.int .i64 x4639.id), .d (.int .i64 x4639.parent), .d (.int .i64 x4639.revision), .d (.int .i64 x4639.clock), .d (.int .i64 x4639.kind), .d (.str x4639.service), .d (.str x4639.version), .d (.str x4639.operation), .d (.int .i64 x4639.start), .d (.int .i64 x4639.end_), .d (.bool x4639.error), .d (.sl (List.map TAttr.enc x4639.attrs)), .d (.sl (List.map TRef.enc x4639.links))], []) (by kernel_rfl) ?_
                refine l_det (some 98) (.one (.d (.int .i64 level_5)), []) (by kernel_rfl) ?_
                refine l_call ok21 en21 (some 99) [.agg [.d (.int .i64 x4639.trace), .d (.int .i64 x4639.id), .d (.int .i64 x4639.parent), .d (.int .i64 x4639.revision), .d (.int .i64 x4639.clock), .d (.int .i64 x4639.kind), .d (.str x4639.service), .d (.str x4639.version), .d (.str x4639.operation), .d (.int .i64 x4639.start), .d (.int .i64 x4639.end_), .d (.bool x4639.error), .d (.sl (List.map TAttr.enc x4639.attrs)), .d (.sl (List.map TRef.enc x4639.links))], .one (.d (.int .i64 level_5))] [false, false] [.agg (List.map RC.d [.int .i64 x4639.trace, .int .i64 x4639.id, .int .i64 x4639.parent, .int .i64 x4639.revision, .int .i64 x4639.clock, .int .i64 x4639.kind, .str x4639.service, .str x4639.version, .str x4639.operation, .int .i64 x4639.start, .int .i64 x4639.end_, .bool x4639.error, .sl (List.map TAttr.enc x4639.attrs), .sl (List.map TRef.enc x4639.links)]), .one (.d (.int .i64 level_5))] [] (by kernel_rfl) ⟨by kernel_rfl, by kernel_rfl⟩ (by kernel_rfl) (by kernel_rfl) (by kernel_rfl) (cl21 x4639 level_5 h) ?_
                rintro hR _ _ ⟨r4644, rfl, rfl, h⟩
                refine ⟨false, (.agg [.d (.str r4644.service), .d (.str r4644.version), .d (.str r4644.operation)], []), (fun hz => (by cases hz)), (ret_R hR (by kernel_rfl)), ?_⟩
                refine l_det (some 100) (.one (.d (.bool (!(decide (r4640.1.service = r4644.service) && (decide (r4640.1.version = r4644.version) && (decide (r4640.1.operation = r4644.operation) && true)))))), []) (by kernel_rfl) ?_
                refine l_det (some 101) (.one (.d (.bool (!(decide (r4640.1.service = r4644.service) && (decide (r4640.1.version = r4644.version) && (decide (r4640.1.operation = r4644.operation) && true)))))), []) (by kernel_rfl) ?_
                refine l_nil ?_
                refine q_fall ?_
                exact Lab.mk (!(decide (r4640.1.service = r4644.service) && (decide (r4640.1.version = r4644.version) && (decide (r4640.1.operation = r4644.operation) && true)))) [(200001, some 200001)] (by kernel_rfl) (by kernel_rfl) (by kernel_rfl) (by kernel_rfl) h
            · rintro v4643 h
              have h : J5_5 K N4624 v4603 v4643 := h
              unfold J5_5 at h
              refine AW.cond' (by kernel_rfl) h (fun h => ?_) (fun h => ?_)
              · refine AW.sregL [(0, none)] (by kernel_rfl) ?_
                refine l_det (some 6) (.one (.d (.bool false)), []) (by kernel_rfl) ?_
                refine l_nil ?_
                refine AW.ret ?_
                refine q_bret ?_
                refine q_ret ?_
                refine q_ret ?_
                refine q_bret ?_
                refine q_bret ?_
                refine q_ret ?_
                refine q_ret ?_
                refine q_bret ?_
                refine q_ret ?_
                exact q_end [.one (.d (.bool false))] [false] [.one (.d (.bool false))] [] [] (by kernel_rfl) ⟨by kernel_rfl, by kernel_rfl⟩ (by kernel_rfl) (by kernel_rfl) (by kernel_rfl) (by kernel_rfl) (Eq.mp (by kernel_rfl) (hK false h)) (.inr rfl)
              · refine AW.skip ?_
                refine q_bfall ?_
                refine q_fall ?_
                refine AW.regL [(0, none), (1, none), (2, none)] (by kernel_rfl) ?_
                refine l_det (some 71) (.one (.d (.int .i64 v4603)), []) (by kernel_rfl) ?_
                refine l_det (some 72) (.one (.d (.int .i64 (w64 (v4603 + 1)))), []) (by kernel_rfl) ?_
                refine l_det (some 13) (.one (.d (.int .i64 (w64 (v4603 + 1)))), []) (by kernel_rfl) ?_
                refine l_nil ?_
                refine q_fall ?_
                exact Lab.mk (w64 (v4603 + 1)) [(200001, some 200001)] (by kernel_rfl) (by kernel_rfl) (by kernel_rfl) (by kernel_rfl) h
          · refine AW.exit ?_
            refine q_exit ?_
            refine q_exit ?_
            refine q_bhere ?_
            refine q_bfall ?_
            refine q_fall ?_
            refine AW.regL [(0, none), (1, none), (2, none)] (by kernel_rfl) ?_
            refine l_det (some 61) (.one (.d (.int .i64 v4395)), []) (by kernel_rfl) ?_
            refine l_det (some 62) (.one (.d (.int .i64 (w64 (v4395 + 1)))), []) (by kernel_rfl) ?_
            refine l_det (some 12) (.one (.d (.int .i64 (w64 (v4395 + 1)))), []) (by kernel_rfl) ?_
            refine l_nil ?_
            refine q_fall ?_
            exact Lab.mk (w64 (v4395 + 1)) [(200001, some 200001)] (by kernel_rfl) (by kernel_rfl) (by kernel_rfl) (by kernel_rfl) h
        · refine AW.exit ?_
          refine q_exit ?_
          refine q_exit ?_
          refine q_bhere ?_
          refine q_fall ?_
          refine AW.sregL [(0, none), (1, none), (2, none), (3, none), (4, none), (5, none), (6, none), (7, none)] (by kernel_rfl) ?_
          refine l_det (some 103) (.one (.view 200001 0 0 ((List.map TTrace.enc r3876).length)), []) (by kernel_rfl) ?_
          refine l_det (some 104) (.one (.d (.int .i64 level_5)), []) (by kernel_rfl) ?_
          refine l_call ok14 en14 (some 105) [.one (.view 200001 0 0 ((List.map TTrace.enc r3876).length)), .one (.d (.int .i64 level_5))] [false, false] [.one (.d (.sl (List.map TTrace.enc r3876))), .one (.d (.int .i64 level_5))] [200001] (by kernel_rfl) (ps_plain (pv_one (pf_view (E := 53) (sz := 3) (l := true) (List.map TTrace.enc r3876) (by kernel_rfl) (by kernel_rfl) rfl)) (ps_plain (pv_one pf_d) ps_nil)) (by kernel_rfl) (by kernel_rfl) (by kernel_rfl) (cl14 r3876 level_5 h) ?_
          rintro hR _ _ ⟨r4646, rfl, rfl, h⟩
          refine ⟨false, (.tup [.one (.view 105 1 0 ((List.map TLine.enc r4646.1).length)), .one (.d (.int .i64 r4646.2))], [(200001, 0, .row false 53 3 (dmm (List.map TTrace.enc r3876))), (105, 1, .row true 41 7 (dmm (List.map TLine.enc r4646.1)))]), (fun hz => (by cases hz)), (ret_R hR (by kernel_rfl)), ?_⟩
          refine l_det (some 102) (.tup [.one (.view 105 1 0 ((List.map TLine.enc r4646.1).length)), .one (.d (.int .i64 r4646.2))], []) (by kernel_rfl) ?_
          refine l_det (some 106) (.one (.view 105 1 0 ((List.map TLine.enc r4646.1).length)), []) (by kernel_rfl) ?_
          refine l_det (some 107) (.one (.d (.int .i64 r4646.2)), []) (by kernel_rfl) ?_
          refine l_det (some 16) (.one (.view 105 1 0 ((List.map TLine.enc r4646.1).length)), []) (by kernel_rfl) ?_
          refine l_det (some 17) (.one (.d (.int .i64 r4646.2)), []) (by kernel_rfl) ?_
          refine l_nil ?_
          refine AW.seqL (S := Bool) (fun s => (fun (v17733 : Bool) => [(6, .one (.d (.bool v17733)))]) s) (fun s => (fun (v17733 : Bool) => []) s) (fun s : Bool => J5_6 K s) ?_ ?_
          · refine AW.regL [(0, none), (1, none), (2, none), (3, none), (4, none), (5, none), (6, none), (7, none), (8, none), (9, none)] (by kernel_rfl) ?_
            refine l_det (some 108) (.one (.d (.int .i64 r4646.2)), []) (by kernel_rfl) ?_
            refine l_det (some 109) (.one (.d (.bool (decide (r4646.2 = 0)))), []) (by kernel_rfl) ?_
            refine l_det (some 110) (.one (.d (.bool (decide (r4646.2 = 0)))), []) (by kernel_rfl) ?_
            refine l_split (s := 110) (by kernel_rfl) h (fun h => ?_) (fun h => ?_)
            · refine l_det (some 111) (.one (.view 105 1 0 ((List.map TLine.enc r4646.1).length)), []) (by kernel_rfl) ?_
              refine l_det (some 112) (.one (.view 200001 0 0 ((List.map TTrace.enc r3876).length)), []) (by kernel_rfl) ?_
              refine l_det (some 113) (.one (.d (.int .i64 level_5)), []) (by kernel_rfl) ?_
              refine l_call ok23 en23 (some 114) [.one (.view 200001 0 0 ((List.map TTrace.enc r3876).length)), .one (.d (.int .i64 level_5))] [false, false] [.one (.d (.sl (List.map TTrace.enc r3876))), .one (.d (.int .i64 level_5))] [200001] (by kernel_rfl) (ps_plain (pv_one (pf_view (E := 53) (sz := 3) (l := false) (List.map TTrace.enc r3876) (by kernel_rfl) (by kernel_rfl) rfl)) (ps_plain (pv_one pf_d) ps_nil)) (by kernel_rfl) (by kernel_rfl) (by kernel_rfl) (cl23 r3876 level_5 h) ?_
              rintro hR _ _ ⟨r17734, rfl, rfl, h⟩
              refine ⟨false, (.one (.view 114 1 0 ((List.map TLine.enc r17734).length)), [(200001, 0, .row false 53 3 (dmm (List.map TTrace.enc r3876))), (114, 1, .row true 41 7 (dmm (List.map TLine.enc r17734)))]), (fun hz => (by cases hz)), (ret_R hR (by kernel_rfl)), ?_⟩
              refine l_call ok22 en22 (some 115) [.one (.view 105 1 0 ((List.map TLine.enc r4646.1).length)), .one (.view 114 1 0 ((List.map TLine.enc r17734).length))] [false, false] [.one (.d (.sl (List.map TLine.enc r4646.1))), .one (.d (.sl (List.map TLine.enc r17734)))] [105, 114] (by kernel_rfl) (ps_plain (pv_one (pf_view (E := 41) (sz := 7) (l := true) (List.map TLine.enc r4646.1) (by kernel_rfl) (by kernel_rfl) rfl)) (ps_plain (pv_one (pf_view (E := 41) (sz := 7) (l := true) (List.map TLine.enc r17734) (by kernel_rfl) (by kernel_rfl) rfl)) ps_nil)) (by kernel_rfl) (by kernel_rfl) (by kernel_rfl) (cl22 r4646.1 r17734 h) ?_
              rintro hR _ _ ⟨r17735, rfl, rfl, h⟩
              refine ⟨true, (.one (.d (.bool r17735)), []), (fun _ => (by kernel_rfl)), (by kernel_rfl), ?_⟩
              refine l_det (some 116) (.one (.d (.bool r17735)), []) (by kernel_rfl) ?_
              refine l_det (some 6) (.one (.d (.bool r17735)), []) (by kernel_rfl) ?_
              refine l_nil ?_
              refine q_fall ?_
              exact Lab.mk r17735 [] (by kernel_rfl) (by kernel_rfl) (by kernel_rfl) (by kernel_rfl) h
            · refine l_det (some 111) (.tup [], []) (by kernel_rfl) ?_
              refine l_det (some 112) (.tup [], []) (by kernel_rfl) ?_
              refine l_det (some 113) (.tup [], []) (by kernel_rfl) ?_
              refine l_skip (some 114) (by kernel_rfl) (by kernel_rfl) (by kernel_rfl) ?_
              refine l_skip (some 115) (by kernel_rfl) (by kernel_rfl) (by kernel_rfl) ?_
              refine l_det (some 116) (.one (.d (.bool false)), []) (by kernel_rfl) ?_
              refine l_det (some 6) (.one (.d (.bool false)), []) (by kernel_rfl) ?_
              refine l_nil ?_
              refine q_fall ?_
              exact Lab.mk false [] (by kernel_rfl) (by kernel_rfl) (by kernel_rfl) (by kernel_rfl) h
          · rintro v17733 h
            have h : J5_6 K v17733 := h
            unfold J5_6 at h
            refine AW.ret ?_
            exact q_end [.one (.d (.bool v17733))] [false] [.one (.d (.bool v17733))] [] [] (by kernel_rfl) ⟨by kernel_rfl, by kernel_rfl⟩ (by kernel_rfl) (by kernel_rfl) (by kernel_rfl) (by kernel_rfl) (Eq.mp (by kernel_rfl) (hK v17733 h)) (.inr rfl)
end Go.Proofs.Ytnpdeecoejabgaa
