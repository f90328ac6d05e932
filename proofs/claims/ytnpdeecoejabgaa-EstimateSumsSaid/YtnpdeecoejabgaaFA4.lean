/- Go functions: their shallow forms, and that they keep their contracts. Printed by a program of mine (gs.py). -/
import Derived.Test.YtnpdeecoejabgaaFA3
set_option maxRecDepth 100000
set_option linter.unusedVariables false
set_option linter.unusedSimpArgs false
namespace Go.Proofs.Ytnpdeecoejabgaa
open Go Go.RowKit

def r23_0 : List AR := [⟨some 4, .mov (.c .nils), [], none⟩]
def r23_1 : List AR := [⟨some 5, .mov (.c .nils), [], none⟩]
def r23_2 : List AR := [⟨some 6, .mov (.c (.int .i64 0)), [], none⟩]
def r23_3 : List AR := [⟨some 10, .mov (.t 6), [], none⟩,
  ⟨some 11, .mov (.t 0), [], none⟩,
  ⟨some 12, .lens (.t 11), [1], none⟩,
  ⟨some 13, .bin .lss (.t 10) (.t 12), [0, 2], none⟩]
def r23_4 : List AR := [⟨some 7, .mov (.c (.int .i64 0)), [], none⟩]
def r23_5 : List AR := [⟨some 16, .mov (.t 7), [], none⟩,
  ⟨some 17, .mov (.t 0), [], none⟩,
  ⟨some 18, .mov (.t 6), [], none⟩,
  ⟨some 19, .iad 3 (.t 17) (.t 18), [1, 2], none⟩,
  ⟨some 20, .fad (.t 19) 2, [3], none⟩,
  ⟨some 21, .ld false 1 (.t 20), [4], none⟩,
  ⟨some 22, .lens (.t 21), [5], none⟩,
  ⟨some 23, .bin .lss (.t 16) (.t 22), [0, 6], none⟩]
def r23_6 : List AR := [⟨some 26, .mov (.t 0), [], none⟩,
  ⟨some 27, .mov (.t 6), [], none⟩,
  ⟨some 28, .iad 3 (.t 26) (.t 27), [0, 1], none⟩,
  ⟨some 29, .fad (.t 28) 2, [2], none⟩,
  ⟨some 30, .ld false 1 (.t 29), [3], none⟩,
  ⟨some 31, .mov (.t 7), [], none⟩,
  ⟨some 32, .iad 14 (.t 30) (.t 31), [4, 5], none⟩,
  ⟨some 33, .ld true 14 (.t 32), [6], none⟩,
  ⟨some 34, .mov (.t 1), [], none⟩,
  ⟨some 35, .call 21 [.t 33, .t 34], [7, 8], none⟩,
  ⟨some 8, .alloc 39 true [.str ⟨#[]⟩, .str ⟨#[]⟩, .str ⟨#[]⟩], [], none⟩,
  ⟨none, .st 3 (.t 8) (.t 35), [10, 9, 9, 0, 1, 2, 3, 4, 5, 6, 7, 8, 9, 10], none⟩]
def r23_7 : List AR := [⟨some 36, .mov (.t 5), [], none⟩,
  ⟨some 37, .lens (.t 36), [0], none⟩,
  ⟨some 9, .mov (.t 37), [1, 0, 1], none⟩]
def r23_8 : List AR := [⟨some 38, .mov (.t 9), [], none⟩,
  ⟨some 39, .bin .gtr (.t 38) (.c (.int .i64 0)), [0], none⟩,
  ⟨some 40, .mov (.t 39), [1], none⟩,
  ⟨some 41, .ld true 3 (.t 8), [2], some (40, true)⟩,
  ⟨some 42, .mov (.t 5), [2], some (40, true)⟩,
  ⟨some 43, .mov (.t 9), [2], some (40, true)⟩,
  ⟨some 44, .bin .sub (.t 43) (.c (.int .i64 1)), [5, 2], some (40, true)⟩,
  ⟨some 45, .iad 7 (.t 42) (.t 44), [4, 6, 2], some (40, true)⟩,
  ⟨some 46, .fad (.t 45) 0, [7, 2], some (40, true)⟩,
  ⟨some 47, .ld true 3 (.t 46), [8, 2], some (40, true)⟩,
  ⟨some 48, .call 44 [.t 41, .t 47], [3, 9, 2, 2], some (40, true)⟩,
  ⟨some 49, .pick (.t 40) (.t 48) (.c (.bool false)), [2, 10], none⟩]
def r23_9 : List AR := [⟨some 50, .mov (.t 9), [], none⟩,
  ⟨some 51, .bin .sub (.t 50) (.c (.int .i64 1)), [0], none⟩,
  ⟨some 9, .mov (.t 51), [1, 0, 1], none⟩]
def r23_10 : List AR := [⟨some 52, .mov (.t 9), [], none⟩,
  ⟨some 53, .bin .gtr (.t 52) (.c (.int .i64 0)), [0], none⟩,
  ⟨some 54, .mov (.t 53), [1], none⟩,
  ⟨some 55, .mov (.t 5), [2], some (54, true)⟩,
  ⟨some 56, .mov (.t 9), [2], some (54, true)⟩,
  ⟨some 57, .bin .sub (.t 56) (.c (.int .i64 1)), [4, 2], some (54, true)⟩,
  ⟨some 58, .iad 7 (.t 55) (.t 57), [3, 5, 2], some (54, true)⟩,
  ⟨some 59, .fad (.t 58) 0, [6, 2], some (54, true)⟩,
  ⟨some 60, .ld true 3 (.t 59), [7, 2], some (54, true)⟩,
  ⟨some 61, .ld true 3 (.t 8), [2], some (54, true)⟩,
  ⟨some 62, .eqs false [.s, .s, .s] (.t 60) (.t 61), [8, 9, 2], some (54, true)⟩,
  ⟨some 63, .pick (.t 54) (.t 62) (.c (.bool false)), [2, 10], none⟩]
def r23_11 : List AR := [⟨some 64, .bsl 41 7 0 [.str ⟨#[]⟩, .str ⟨#[]⟩, .str ⟨#[]⟩, .int .i64 0, .int .i64 0, .int .i64 0, .int .i64 0] [], [], none⟩,
  ⟨some 65, .mov (.t 5), [], none⟩,
  ⟨some 66, .mov (.t 9), [], none⟩,
  ⟨some 67, .slc 7 (.t 65) none (some (.t 66)) none, [1, 2], none⟩,
  ⟨some 68, .app 41 7 80 [.str ⟨#[]⟩, .str ⟨#[]⟩, .str ⟨#[]⟩, .int .i64 0, .int .i64 0, .int .i64 0, .int .i64 0] (.t 64) (.t 67), [0, 3], none⟩,
  ⟨some 69, .ld true 3 (.t 8), [], none⟩,
  ⟨some 70, .mov (.t 0), [], none⟩,
  ⟨some 71, .ld true 3 (.t 8), [], none⟩,
  ⟨some 72, .mov (.t 1), [], none⟩,
  ⟨some 73, .call 45 [.t 70, .t 71, .t 72], [6, 7, 8, 4], none⟩,
  ⟨some 74, .bld [.str ⟨#[]⟩, .str ⟨#[]⟩, .str ⟨#[]⟩, .int .i64 0, .int .i64 0, .int .i64 0, .int .i64 0] [(0, 3, .t 69), (3, 4, .t 73)], [5, 9], none⟩,
  ⟨some 75, .bsl 41 7 1 [.str ⟨#[]⟩, .str ⟨#[]⟩, .str ⟨#[]⟩, .int .i64 0, .int .i64 0, .int .i64 0, .int .i64 0] [(0, .t 74)], [10], none⟩,
  ⟨some 76, .app 41 7 80 [.str ⟨#[]⟩, .str ⟨#[]⟩, .str ⟨#[]⟩, .int .i64 0, .int .i64 0, .int .i64 0, .int .i64 0] (.t 68) (.t 75), [4, 11, 9], none⟩,
  ⟨some 77, .mov (.t 5), [], none⟩,
  ⟨some 78, .mov (.t 9), [], none⟩,
  ⟨some 79, .slc 7 (.t 77) (some (.t 78)) none none, [13, 14], none⟩,
  ⟨some 80, .app 41 7 80 [.str ⟨#[]⟩, .str ⟨#[]⟩, .str ⟨#[]⟩, .int .i64 0, .int .i64 0, .int .i64 0, .int .i64 0] (.t 76) (.t 79), [12, 15, 12], none⟩,
  ⟨some 5, .mov (.t 80), [16, 16, 0, 1, 2, 3, 4, 5, 6, 7, 8, 9, 10, 11, 12, 13, 14, 15, 16], none⟩]
def r23_12 : List AR := [⟨some 24, .mov (.t 7), [], none⟩,
  ⟨some 25, .bin .add (.t 24) (.c (.int .i64 1)), [0], none⟩,
  ⟨some 7, .mov (.t 25), [1, 0, 1], none⟩]
def r23_13 : List AR := [⟨some 14, .mov (.t 6), [], none⟩,
  ⟨some 15, .bin .add (.t 14) (.c (.int .i64 1)), [0], none⟩,
  ⟨some 6, .mov (.t 15), [1, 0, 1], none⟩]
def r23_14 : List AR := [⟨some 81, .mov (.t 5), [], none⟩,
  ⟨some 4, .mov (.t 81), [0, 0], none⟩]
def c23 : ACode := .seq (.reg r23_0 false) (.seq (.reg r23_1 false) (.seq (.seq (.reg r23_2 false) (.blk 0 (.loop (.seq (.seq (.reg r23_3 false) (.cond (.t 13) (.skip) (.exit 0))) (.seq (.blk 1 (.seq (.reg r23_4 false) (.blk 2 (.loop (.seq (.seq (.reg r23_5 false) (.cond (.t 23) (.skip) (.exit 2))) (.seq (.blk 3 (.seq (.reg r23_6 false) (.seq (.reg r23_7 false) (.seq (.blk 4 (.loop (.seq (.seq (.reg r23_8 true) (.cond (.t 49) (.skip) (.exit 4))) (.blk 5 (.reg r23_9 false))))) (.seq (.seq (.reg r23_10 true) (.cond (.t 63) (.exit 3) (.skip))) (.reg r23_11 true)))))) (.reg r23_12 false))))))) (.reg r23_13 false)))))) (.seq (.reg r23_14 false) (.ret))))
theorem body23 : Try.f23.body.map (comp Try.prog 82) = some c23 := by kernel_rfl
theorem res23 : allSome (Try.f23.results.toList.map (compRes Try.prog)) = some [.s 4] := by kernel_rfl
theorem cok23 {S : FSpec} (h : ∀ args K, S args K → args.all argOk = true ∧ args.length ≤ 82 ∧ AW Try.prog 82 (some ownP) c23 (initS args) (retPost [.s 4] args K)) : COK Try.prog 23 S := of_body Try.func23 Try.ntmps23 body23 res23 h

def J23_3 (N16599 : ((List TLine) × Int) → Prop) (v16290 : Int) (v16806 : List TLine) : Prop :=
  N16599 (v16806, (w64 (v16290 + 1)))

def J23_6 (N16599 : ((List TLine) × Int) → Prop) (v16290 : Int) (v16289 : List TLine) (v16869 : Int) (l_23 : List TTrace) (r16810 : TGroup) (level_23 : Int) (v16903 : Bool) : Prop :=
  Cond v16903 (J23_3 N16599 v16290 v16289) (0 ≤ v16869 ∧ v16869 ≤ (v16289.length : Int) ∧ (0 ≤ v16869 ∧ v16869 ≤ (v16289.length : Int) ∧ (Fits (([] ++ (List.take (v16869.toNat - 0) (List.drop 0 v16289))).length * 80) (W45 l_23 r16810 level_23 fun r16904 => Fits ((([] ++ (List.take (v16869.toNat - 0) (List.drop 0 v16289))) ++ [(TLine.mk r16810 r16904)]).length * 80) (Fits (((([] ++ (List.take (v16869.toNat - 0) (List.drop 0 v16289))) ++ [(TLine.mk r16810 r16904)]) ++ (List.take (v16289.length - v16869.toNat) (List.drop v16869.toNat v16289))).length * 80) (J23_3 N16599 v16290 ((([] ++ (List.take (v16869.toNat - 0) (List.drop 0 v16289))) ++ [(TLine.mk r16810 r16904)]) ++ (List.take (v16289.length - v16869.toNat) (List.drop v16869.toNat v16289)))))))))

def J23_5 (N16884 : Int → Prop) (v16869 : Int) (v16289 : List TLine) (N16599 : ((List TLine) × Int) → Prop) (v16290 : Int) (l_23 : List TTrace) (r16810 : TGroup) (level_23 : Int) (v16896 : Bool) : Prop :=
  Cond v16896 (N16884 (w64 (v16869 - 1))) (Cond (decide (v16869 > 0)) (Idx v16289 (w64 (v16869 - 1)) fun x16905 => J23_6 N16599 v16290 v16289 v16869 l_23 r16810 level_23 (decide (x16905.group.service = r16810.service) && (decide (x16905.group.version = r16810.version) && (decide (x16905.group.operation = r16810.operation) && true)))) (J23_6 N16599 v16290 v16289 v16869 l_23 r16810 level_23 false))

def L23_4 (v16289 : List TLine) (r16810 : TGroup) (N16599 : ((List TLine) × Int) → Prop) (v16290 : Int) (l_23 : List TTrace) (level_23 : Int) (v16869 : Int) (N16884 : Int → Prop) : Prop :=
  Cond (decide (v16869 > 0)) (Idx v16289 (w64 (v16869 - 1)) fun x16906 => W44 r16810 x16906.group fun r16907 => J23_5 N16884 v16869 v16289 N16599 v16290 l_23 r16810 level_23 r16907) (J23_5 N16884 v16869 v16289 N16599 v16290 l_23 r16810 level_23 false)

def L23_2 (l_23 : List TTrace) (v13198 : Int) (level_23 : Int) (N15053 : ((List TLine) × Int) → Prop) (v16289 : List TLine) (v16290 : Int) (N16599 : ((List TLine) × Int) → Prop) : Prop :=
  Idx l_23 v13198 fun x16603 => Cond (decide (v16290 < (x16603.spans.length : Int))) (Idx x16603.spans v16290 fun x16809 => W21 x16809 level_23 fun r16810 => LoopW (fun (s : Int) N16884 => L23_4 v16289 r16810 N16599 v16290 l_23 level_23 s N16884) (v16289.length : Int)) (N15053 (v16289, (w64 (v13198 + 1))))

def L23_1 (l_23 : List TTrace) (level_23 : Int) (K : (List TLine) → Prop) (v13197 : List TLine) (v13198 : Int) (N15053 : ((List TLine) × Int) → Prop) : Prop :=
  Cond (decide (v13198 < (l_23.length : Int))) (LoopW (fun (s : ((List TLine) × Int)) N16599 => L23_2 l_23 v13198 level_23 N15053 s.1 s.2 N16599) (v13197, 0)) (K v13197)

/-- sleuth/sleuthlaw25.by -/
def W23 (l_23 : List TTrace) (level_23 : Int) (K : (List TLine) → Prop) : Prop :=
  LoopW (fun (s : ((List TLine) × Int)) N15053 => L23_1 l_23 level_23 K s.1 s.2 N15053) ([], 0)

def S23 : FSpec := fun args K => ∃ (l_23 : List TTrace), ∃ (level_23 : Int), ∃ (Kr : (List TLine) → Prop), args = [.one (.d (.sl (List.map TTrace.enc l_23))), .one (.d (.int .i64 level_23))] ∧ W23 l_23 level_23 Kr ∧ ∀ r, Kr r → K (.one (.d (.sl (List.map TLine.enc r)))) []

theorem en23 : enters Try.prog 23 = true := by unfold enters; rw [Try.func23]; rfl
theorem cl23 (l_23 : List TTrace) (level_23 : Int) {Kr : (List TLine) → Prop} (h : W23 l_23 level_23 Kr) : S23 [.one (.d (.sl (List.map TTrace.enc l_23))), .one (.d (.int .i64 level_23))] (fun rv rows => ∃ r, rv = (.one (.d (.sl (List.map TLine.enc r)))) ∧ rows = [] ∧ Kr r) := ⟨l_23, level_23, Kr, rfl, h, fun r hr => ⟨r, rfl, rfl, hr⟩⟩

theorem ok23 : COK Try.prog 23 S23 := by
  refine cok23 fun args K0 hS => ?_
  obtain ⟨l_23, level_23, K, rfl, h, hK⟩ := hS
  refine ⟨by kernel_rfl, by simp, ?_⟩
  unfold W23 at h
  refine AW.sregL [(0, none)] (by kernel_rfl) ?_
  refine l_ds 4 (.one (.nils)) ?_
  refine l_nil ?_
  refine AW.sregL [(0, none)] (by kernel_rfl) ?_
  refine l_ds 5 (.one (.nils)) ?_
  refine l_nil ?_
  refine AW.seq ?_
  refine AW.sregL [(0, none)] (by kernel_rfl) ?_
  refine l_ds 6 (.one (.d (.int .i64 0))) ?_
  refine l_nil ?_
  refine AW.blk ?_
  refine AW.loopL (S := ((List TLine) × Int)) (fun s => (fun (v13197 : List TLine) (v13198 : Int) => [(0, .one (.d (.sl (List.map TTrace.enc l_23)))), (1, .one (.d (.int .i64 level_23))), (5, .one (.view 200001 0 0 ((List.map TLine.enc v13197).length))), (6, .one (.d (.int .i64 v13198)))]) s.1 s.2) (fun s => (fun (v13197 : List TLine) (v13198 : Int) => [(200001, .pure true 41 7 (List.map TLine.enc v13197))]) s.1 s.2) (fun (s : ((List TLine) × Int)) N15053 => L23_1 l_23 level_23 K s.1 s.2 N15053) (N := fun s => LoopW (fun (s : ((List TLine) × Int)) N15053 => L23_1 l_23 level_23 K s.1 s.2 N15053) s) (Lab.m ([], 0) [(200001, none)] h) (fun _ h => h) ?_
  rintro ⟨v13197, v13198⟩ N15053 h
  have h : L23_1 l_23 level_23 K v13197 v13198 N15053 := h
  unfold L23_1 at h
  refine AW.seq ?_
  refine AW.sregL [(0, none), (1, none), (2, none), (3, none)] (by kernel_rfl) ?_
  refine l_ds 10 (.one (.d (.int .i64 v13198))) ?_
  refine l_ds 11 (.one (.d (.sl (List.map TTrace.enc l_23)))) ?_
  refine l_spec (some 12) (.lens (.t 11)) (.one (.d (.int .i64 (l_23.length : Int))), []) (by kernel_rfl) (detA_none (d_lens_sl (enc := TTrace.enc) l_23 (by kernel_rfl))) ?_
  refine l_ds 13 (.one (.d (.bool (decide (v13198 < (l_23.length : Int)))))) ?_
  refine l_nil ?_
  refine AW.cond' (by kernel_rfl) h (fun h => ?_) (fun h => ?_)
  · refine AW.skip ?_
    refine q_fall ?_
    refine AW.seq ?_
    refine AW.blk ?_
    refine AW.sregL [(0, none)] (by kernel_rfl) ?_
    refine l_ds 7 (.one (.d (.int .i64 0))) ?_
    refine l_nil ?_
    refine AW.blk ?_
    refine AW.loopL (S := ((List TLine) × Int)) (fun s => (fun (v16289 : List TLine) (v16290 : Int) => [(0, .one (.d (.sl (List.map TTrace.enc l_23)))), (1, .one (.d (.int .i64 level_23))), (5, .one (.view 200001 0 0 ((List.map TLine.enc v16289).length))), (6, .one (.d (.int .i64 v13198))), (7, .one (.d (.int .i64 v16290)))]) s.1 s.2) (fun s => (fun (v16289 : List TLine) (v16290 : Int) => [(200001, .pure true 41 7 (List.map TLine.enc v16289))]) s.1 s.2) (fun (s : ((List TLine) × Int)) N16599 => L23_2 l_23 v13198 level_23 N15053 s.1 s.2 N16599) (N := fun s => LoopW (fun (s : ((List TLine) × Int)) N16599 => L23_2 l_23 v13198 level_23 N15053 s.1 s.2 N16599) s) (Lab.m (v13197, 0) [(200001, some 200001)] h) (fun _ h => h) ?_
    rintro ⟨v16289, v16290⟩ N16599 h
    have h : L23_2 l_23 v13198 level_23 N15053 v16289 v16290 N16599 := h
    unfold L23_2 at h
    refine AW.seq ?_
    refine AW.sregL [(0, none), (1, none), (2, none), (3, none), (4, none), (5, none), (6, none), (7, none)] (by kernel_rfl) ?_
    refine l_ds 16 (.one (.d (.int .i64 v16290))) ?_
    refine l_ds 17 (.one (.d (.sl (List.map TTrace.enc l_23)))) ?_
    refine l_ds 18 (.one (.d (.int .i64 v13198))) ?_
    obtain ⟨h13063, x16603, h13064, h⟩ := h
    refine l_spec (some 19) (.iad 3 (.t 17) (.t 18)) (.one (.d (.ptr [.int .i64 x16603.id, .int .i64 x16603.weight, .sl (List.map TSpan.enc x16603.spans)])), []) (by kernel_rfl) (detA_none (d_iad_sl (enc := TTrace.enc) (k := .i64) l_23 x16603 (by kernel_rfl) (by kernel_rfl) h13063 h13064 rfl)) ?_
    refine l_ds 20 (.one (.d (.ptr [.sl (List.map TSpan.enc x16603.spans)]))) ?_
    refine l_ds 21 (.one (.d (.sl (List.map TSpan.enc x16603.spans)))) ?_
    refine l_spec (some 22) (.lens (.t 21)) (.one (.d (.int .i64 (x16603.spans.length : Int))), []) (by kernel_rfl) (detA_none (d_lens_sl (enc := TSpan.enc) x16603.spans (by kernel_rfl))) ?_
    refine l_ds 23 (.one (.d (.bool (decide (v16290 < (x16603.spans.length : Int)))))) ?_
    refine l_nil ?_
    refine AW.cond' (by kernel_rfl) h (fun h => ?_) (fun h => ?_)
    · refine AW.skip ?_
      refine q_fall ?_
      refine AW.seqL (S := (List TLine)) (fun s => (fun (v16806 : List TLine) => [(0, .one (.d (.sl (List.map TTrace.enc l_23)))), (1, .one (.d (.int .i64 level_23))), (5, .one (.view 200001 0 0 ((List.map TLine.enc v16806).length))), (6, .one (.d (.int .i64 v13198))), (7, .one (.d (.int .i64 v16290)))]) s) (fun s => (fun (v16806 : List TLine) => [(200001, .pure true 41 7 (List.map TLine.enc v16806))]) s) (fun s : (List TLine) => J23_3 N16599 v16290 s) ?_ ?_
      · refine AW.blk ?_
        refine AW.sregL [(0, none), (1, none), (2, none), (3, none), (4, none), (5, none), (6, none), (7, none), (8, none), (9, none), (10, none), (11, none)] (by kernel_rfl) ?_
        refine l_ds 26 (.one (.d (.sl (List.map TTrace.enc l_23)))) ?_
        refine l_ds 27 (.one (.d (.int .i64 v13198))) ?_
        refine l_spec (some 28) (.iad 3 (.t 26) (.t 27)) (.one (.d (.ptr [.int .i64 x16603.id, .int .i64 x16603.weight, .sl (List.map TSpan.enc x16603.spans)])), []) (by kernel_rfl) (detA_none (d_iad_sl (enc := TTrace.enc) (k := .i64) l_23 x16603 (by kernel_rfl) (by kernel_rfl) h13063 h13064 rfl)) ?_
        refine l_ds 29 (.one (.d (.ptr [.sl (List.map TSpan.enc x16603.spans)]))) ?_
        refine l_ds 30 (.one (.d (.sl (List.map TSpan.enc x16603.spans)))) ?_
        refine l_ds 31 (.one (.d (.int .i64 v16290))) ?_
        obtain ⟨h13340, x16809, h13341, h⟩ := h
        refine l_spec (some 32) (.iad 14 (.t 30) (.t 31)) (.one (.d (.ptr [.int .i64 x16809.trace, .int .i64 x16809.id, .int .i64 x16809.parent, .int .i64 x16809.revision, .int .i64 x16809.clock, .int .i64 x16809.kind, .str x16809.service, .str x16809.version, .str x16809.operation, .int .i64 x16809.start, .int .i64 x16809.end_, .bool x16809.error, .sl (List.map TAttr.enc x16809.attrs), .sl (List.map TRef.enc x16809.links)])), []) (by kernel_rfl) (detA_none (d_iad_sl (enc := TSpan.enc) (k := .i64) x16603.spans x16809 (by kernel_rfl) (by kernel_rfl) h13340 h13341 rfl)) ?_
        refine l_ds 33 (.agg [.d (.int .i64 x16809.trace), .d (.int .i64 x16809.id), .d (.int .i64 x16809.parent), .d (.int .i64 x16809.revision), .d (.int .i64 x16809.clock), .d (.int .i64 x16809.kind), .d (.str x16809.service), .d (.str x16809.version), .d (.str x16809.operation), .d (.int .i64 x16809.start), .d (.int .i64 x16809.end_), .d (.bool x16809.error), .d (.sl (List.map TAttr.enc x16809.attrs)), .d (.sl (List.map TRef.enc x16809.links))]) ?_
        refine l_ds 34 (.one (.d (.int .i64 level_23))) ?_
        refine l_call ok21 en21 (some 35) [.agg [.d (.int .i64 x16809.trace), .d (.int .i64 x16809.id), .d (.int .i64 x16809.parent), .d (.int .i64 x16809.revision), .d (.int .i64 x16809.clock), .d (.int .i64 x16809.kind), .d (.str x16809.service), .d (.str x16809.version), .d (.str x16809.operation), .d (.int .i64 x16809.start), .d (.int .i64 x16809.end_), .d (.bool x16809.error), .d (.sl (List.map TAttr.enc x16809.attrs)), .d (.sl (List.map TRef.enc x16809.links))], .one (.d (.int .i64 level_23))] [false, false] [.agg (List.map RC.d [.int .i64 x16809.trace, .int .i64 x16809.id, .int .i64 x16809.parent, .int .i64 x16809.revision, .int .i64 x16809.clock, .int .i64 x16809.kind, .str x16809.service, .str x16809.version, .str x16809.operation, .int .i64 x16809.start, .int .i64 x16809.end_, .bool x16809.error, .sl (List.map TAttr.enc x16809.attrs), .sl (List.map TRef.enc x16809.links)]), .one (.d (.int .i64 level_23))] [] (by kernel_rfl) ⟨by kernel_rfl, by kernel_rfl⟩ (by kernel_rfl) (by kernel_rfl) (by kernel_rfl) (cl21 x16809 level_23 h) ?_
        rintro hR _ _ ⟨r16810, rfl, rfl, h⟩
        refine ⟨false, (.agg [.d (.str r16810.service), .d (.str r16810.version), .d (.str r16810.operation)], []), (fun hz => (by cases hz)), (ret_R hR (by kernel_rfl)), ?_⟩
        refine l_det (some 8) (.one (.ref 8 1 0 0), [(8, 1, .row true 39 3 [[.d (.str (⟨#[]⟩ : ByteArray)), .d (.str (⟨#[]⟩ : ByteArray)), .d (.str (⟨#[]⟩ : ByteArray))]])]) (by kernel_rfl) ?_
        refine l_det none (.tup [], [(8, 1, .row true 39 3 [[.d (.str r16810.service), .d (.str r16810.version), .d (.str r16810.operation)]])]) (by kernel_rfl) ?_
        refine l_nil ?_
        refine AW.sregL [(0, none), (1, none), (2, none)] (by kernel_rfl) ?_
        refine l_ds 36 (.one (.view 200001 0 0 ((List.map TLine.enc v16289).length))) ?_
        refine l_spec (some 37) (.lens (.t 36)) (.one (.d (.int .i64 (v16289.length : Int))), []) (by kernel_rfl) (detA_none (d_lens_v (enc := TLine.enc) (o := 200001) (g := 0) v16289 (by kernel_rfl))) ?_
        refine l_ds 9 (.one (.d (.int .i64 (v16289.length : Int)))) ?_
        refine l_nil ?_
        refine AW.seq ?_
        refine AW.blk ?_
        refine AW.loopL (S := Int) (fun s => (fun (v16869 : Int) => [(0, .one (.d (.sl (List.map TTrace.enc l_23)))), (1, .one (.d (.int .i64 level_23))), (5, .one (.view 200001 0 0 ((List.map TLine.enc v16289).length))), (6, .one (.d (.int .i64 v13198))), (7, .one (.d (.int .i64 v16290))), (8, .one (.ref 200002 0 0 0)), (9, .one (.d (.int .i64 v16869)))]) s) (fun s => (fun (v16869 : Int) => [(200001, .pure true 41 7 (List.map TLine.enc v16289)), (200002, .expl true 39 3 [[.d (.str r16810.service), .d (.str r16810.version), .d (.str r16810.operation)]])]) s) (fun (s : Int) N16884 => L23_4 v16289 r16810 N16599 v16290 l_23 level_23 s N16884) (N := fun s => LoopW (fun (s : Int) N16884 => L23_4 v16289 r16810 N16599 v16290 l_23 level_23 s N16884) s) (Lab.m (v16289.length : Int) [(200001, some 200001), (200002, some 8)] h) (fun _ h => h) ?_
        rintro v16869 N16884 h
        have h : L23_4 v16289 r16810 N16599 v16290 l_23 level_23 v16869 N16884 := h
        unfold L23_4 at h
        refine AW.seq ?_
        refine AW.seqL (S := Bool) (fun s => (fun (v16896 : Bool) => [(0, .one (.d (.sl (List.map TTrace.enc l_23)))), (1, .one (.d (.int .i64 level_23))), (5, .one (.view 200001 0 0 ((List.map TLine.enc v16289).length))), (6, .one (.d (.int .i64 v13198))), (7, .one (.d (.int .i64 v16290))), (8, .one (.ref 200002 0 0 0)), (9, .one (.d (.int .i64 v16869))), (49, .one (.d (.bool v16896)))]) s) (fun s => (fun (v16896 : Bool) => [(200001, .pure true 41 7 (List.map TLine.enc v16289)), (200002, .expl true 39 3 [[.d (.str r16810.service), .d (.str r16810.version), .d (.str r16810.operation)]])]) s) (fun s : Bool => J23_5 N16884 v16869 v16289 N16599 v16290 l_23 r16810 level_23 s) ?_ ?_
        · refine AW.regdL follows_mixed [[], [0], [0, 1], [0, 1, 2], [0, 1, 2], [0, 1, 2], [0, 1, 2, 5], [0, 1, 2, 4, 5, 6], [0, 1, 2, 4, 5, 6, 7], [0, 1, 2, 4, 5, 6, 7, 8], [0, 1, 2, 3, 4, 5, 6, 7, 8, 9], [0, 1, 2, 3, 4, 5, 6, 7, 8, 9, 10]] [(0, none), (1, none), (2, none), (3, none), (4, none), (5, none), (6, none), (7, none), (8, none), (9, none), (10, none), (11, none)] (by kernel_rfl) ?_
          refine l_ds 38 (.one (.d (.int .i64 v16869))) ?_
          refine l_ds 39 (.one (.d (.bool (decide (v16869 > 0))))) ?_
          refine l_ds 40 (.one (.d (.bool (decide (v16869 > 0))))) ?_
          refine l_split (s := 40) (by kernel_rfl) h (fun h => ?_) (fun h => ?_)
          · refine l_ds 41 (.agg [.d (.str r16810.service), .d (.str r16810.version), .d (.str r16810.operation)]) ?_
            refine l_ds 42 (.one (.view 200001 0 0 ((List.map TLine.enc v16289).length))) ?_
            refine l_ds 43 (.one (.d (.int .i64 v16869))) ?_
            refine l_ds 44 (.one (.d (.int .i64 (w64 (v16869 - 1))))) ?_
            obtain ⟨h13470, x16906, h13471, h⟩ := h
            refine l_spec (some 45) (.iad 7 (.t 42) (.t 44)) (.one (.ref 200001 0 ((w64 (v16869 - 1)).toNat) 0), []) (by kernel_rfl) (detA_none (d_iad_v (enc := TLine.enc) (k := .i64) (E := 41) (l := true) (ys := dmm (List.map TLine.enc v16289)) v16289 x16906 (by kernel_rfl) (by kernel_rfl) (by kernel_rfl) (by kernel_rfl) h13470 h13471)) ?_
            refine l_ds 46 (.one (.ref 200001 0 ((w64 (v16869 - 1)).toNat) 0)) ?_
            refine l_spec (some 47) (.ld true 3 (.t 46)) (.agg [.d (.str x16906.group.service), .d (.str x16906.group.version), .d (.str x16906.group.operation)], []) (by kernel_rfl) (detA_none (d_ld_row (enc := TLine.enc) (o := 200001) (g := 0) (i := ((w64 (v16869 - 1)).toNat)) (off := 0) (E := 41) (sz := 7) (l := true) v16289 x16906 (by kernel_rfl) (by kernel_rfl) (by kernel_rfl) h13471 (by kernel_rfl))) ?_
            refine l_call ok44 en44 (some 48) [.agg [.d (.str r16810.service), .d (.str r16810.version), .d (.str r16810.operation)], .agg [.d (.str x16906.group.service), .d (.str x16906.group.version), .d (.str x16906.group.operation)]] [false, false] [.agg (List.map RC.d [.str r16810.service, .str r16810.version, .str r16810.operation]), .agg (List.map RC.d [.str x16906.group.service, .str x16906.group.version, .str x16906.group.operation])] [] (by kernel_rfl) ⟨by kernel_rfl, by kernel_rfl⟩ (by kernel_rfl) (by kernel_rfl) (by kernel_rfl) (cl44 r16810 x16906.group h) ?_
            rintro hR _ _ ⟨r16907, rfl, rfl, h⟩
            refine ⟨false, (.one (.d (.bool r16907)), []), (fun hz => (by cases hz)), (ret_R hR (by kernel_rfl)), ?_⟩
            refine l_ds 49 (.one (.d (.bool r16907))) ?_
            refine l_nil ?_
            refine q_fall ?_
            exact Lab.m r16907 [(200001, some 200001), (200002, some 200002)] h
          · refine l_ds 41 (.tup []) ?_
            refine l_ds 42 (.tup []) ?_
            refine l_ds 43 (.tup []) ?_
            refine l_ds 44 (.tup []) ?_
            refine l_ds 45 (.tup []) ?_
            refine l_ds 46 (.tup []) ?_
            refine l_ds 47 (.tup []) ?_
            refine l_skip (some 48) (by kernel_rfl) (by kernel_rfl) (by kernel_rfl) ?_
            refine l_ds 49 (.one (.d (.bool false))) ?_
            refine l_nil ?_
            refine q_fall ?_
            exact Lab.m false [(200001, some 200001), (200002, some 200002)] h
        · rintro v16896 h
          have h : J23_5 N16884 v16869 v16289 N16599 v16290 l_23 r16810 level_23 v16896 := h
          unfold J23_5 at h
          refine AW.cond' (by kernel_rfl) h (fun h => ?_) (fun h => ?_)
          · refine AW.skip ?_
            refine q_fall ?_
            refine AW.blk ?_
            refine AW.regL [(0, none), (1, none), (2, none)] (by kernel_rfl) ?_
            refine l_ds 50 (.one (.d (.int .i64 v16869))) ?_
            refine l_ds 51 (.one (.d (.int .i64 (w64 (v16869 - 1))))) ?_
            refine l_ds 9 (.one (.d (.int .i64 (w64 (v16869 - 1))))) ?_
            refine l_nil ?_
            refine q_bfall ?_
            refine q_fall ?_
            exact Lab.m (w64 (v16869 - 1)) [(200001, some 200001), (200002, some 200002)] h
          · refine AW.exit ?_
            refine q_exit ?_
            refine q_exit ?_
            refine q_bhere ?_
            refine q_fall ?_
            refine AW.seq ?_
            refine AW.seqL (S := Bool) (fun s => (fun (v16903 : Bool) => [(0, .one (.d (.sl (List.map TTrace.enc l_23)))), (1, .one (.d (.int .i64 level_23))), (5, .one (.view 200001 0 0 ((List.map TLine.enc v16289).length))), (6, .one (.d (.int .i64 v13198))), (7, .one (.d (.int .i64 v16290))), (8, .one (.ref 200002 0 0 0)), (9, .one (.d (.int .i64 v16869))), (63, .one (.d (.bool v16903)))]) s) (fun s => (fun (v16903 : Bool) => [(200001, .pure true 41 7 (List.map TLine.enc v16289)), (200002, .expl true 39 3 [[.d (.str r16810.service), .d (.str r16810.version), .d (.str r16810.operation)]])]) s) (fun s : Bool => J23_6 N16599 v16290 v16289 v16869 l_23 r16810 level_23 s) ?_ ?_
            · refine AW.regdL follows_mixed [[], [0], [0, 1], [0, 1, 2], [0, 1, 2], [0, 1, 2, 4], [0, 1, 2, 3, 4, 5], [0, 1, 2, 3, 4, 5, 6], [0, 1, 2, 3, 4, 5, 6, 7], [0, 1, 2], [0, 1, 2, 3, 4, 5, 6, 7, 8, 9], [0, 1, 2, 3, 4, 5, 6, 7, 8, 9, 10]] [(0, none), (1, none), (2, none), (3, none), (4, none), (5, none), (6, none), (7, none), (8, none), (9, none), (10, none), (11, none)] (by kernel_rfl) ?_
              refine l_ds 52 (.one (.d (.int .i64 v16869))) ?_
              refine l_ds 53 (.one (.d (.bool (decide (v16869 > 0))))) ?_
              refine l_ds 54 (.one (.d (.bool (decide (v16869 > 0))))) ?_
              refine l_split (s := 54) (by kernel_rfl) h (fun h => ?_) (fun h => ?_)
              · refine l_ds 55 (.one (.view 200001 0 0 ((List.map TLine.enc v16289).length))) ?_
                refine l_ds 56 (.one (.d (.int .i64 v16869))) ?_
                refine l_ds 57 (.one (.d (.int .i64 (w64 (v16869 - 1))))) ?_
                obtain ⟨h13468, x16905, h13469, h⟩ := h
                refine l_spec (some 58) (.iad 7 (.t 55) (.t 57)) (.one (.ref 200001 0 ((w64 (v16869 - 1)).toNat) 0), []) (by kernel_rfl) (detA_none (d_iad_v (enc := TLine.enc) (k := .i64) (E := 41) (l := true) (ys := dmm (List.map TLine.enc v16289)) v16289 x16905 (by kernel_rfl) (by kernel_rfl) (by kernel_rfl) (by kernel_rfl) h13468 h13469)) ?_
                refine l_ds 59 (.one (.ref 200001 0 ((w64 (v16869 - 1)).toNat) 0)) ?_
                refine l_spec (some 60) (.ld true 3 (.t 59)) (.agg [.d (.str x16905.group.service), .d (.str x16905.group.version), .d (.str x16905.group.operation)], []) (by kernel_rfl) (detA_none (d_ld_row (enc := TLine.enc) (o := 200001) (g := 0) (i := ((w64 (v16869 - 1)).toNat)) (off := 0) (E := 41) (sz := 7) (l := true) v16289 x16905 (by kernel_rfl) (by kernel_rfl) (by kernel_rfl) h13469 (by kernel_rfl))) ?_
                refine l_ds 61 (.agg [.d (.str r16810.service), .d (.str r16810.version), .d (.str r16810.operation)]) ?_
                refine l_ds 62 (.one (.d (.bool (decide (x16905.group.service = r16810.service) && (decide (x16905.group.version = r16810.version) && (decide (x16905.group.operation = r16810.operation) && true)))))) ?_
                refine l_ds 63 (.one (.d (.bool (decide (x16905.group.service = r16810.service) && (decide (x16905.group.version = r16810.version) && (decide (x16905.group.operation = r16810.operation) && true)))))) ?_
                refine l_nil ?_
                refine q_fall ?_
                exact Lab.m (decide (x16905.group.service = r16810.service) && (decide (x16905.group.version = r16810.version) && (decide (x16905.group.operation = r16810.operation) && true))) [(200001, some 200001), (200002, some 200002)] h
              · refine l_ds 55 (.tup []) ?_
                refine l_ds 56 (.tup []) ?_
                refine l_ds 57 (.tup []) ?_
                refine l_ds 58 (.tup []) ?_
                refine l_ds 59 (.tup []) ?_
                refine l_ds 60 (.tup []) ?_
                refine l_ds 61 (.tup []) ?_
                refine l_ds 62 (.tup []) ?_
                refine l_ds 63 (.one (.d (.bool false))) ?_
                refine l_nil ?_
                refine q_fall ?_
                exact Lab.m false [(200001, some 200001), (200002, some 200002)] h
            · rintro v16903 h
              have h : J23_6 N16599 v16290 v16289 v16869 l_23 r16810 level_23 v16903 := h
              unfold J23_6 at h
              refine AW.cond' (by kernel_rfl) h (fun h => ?_) (fun h => ?_)
              · refine AW.exit ?_
                refine q_exit ?_
                refine q_bhere ?_
                refine q_fall ?_
                exact Lab.m v16289 [(200001, some 200001)] h
              · refine AW.skip ?_
                refine q_fall ?_
                refine AW.regdL follows_mixed [[], [], [], [1, 2], [0, 1, 2, 3], [], [], [], [], [0, 1, 2, 3, 4, 6, 7, 8], [0, 1, 2, 3, 4, 5, 6, 7, 8, 9], [0, 1, 2, 3, 4, 5, 6, 7, 8, 9, 10], [0, 1, 2, 3, 4, 5, 6, 7, 8, 9, 10, 11], [], [], [13, 14], [0, 1, 2, 3, 4, 5, 6, 7, 8, 9, 10, 11, 12, 13, 14, 15], [0, 1, 2, 3, 4, 5, 6, 7, 8, 9, 10, 11, 12, 13, 14, 15, 16]] [(1, none), (2, none), (3, some [67, 1200001]), (5, some [69, 1200001, 1200002]), (6, none), (7, some [71, 1200001, 1200002]), (8, none), (13, none), (14, none), (15, some [79, 1200001]), (0, some [64]), (4, some [64, 68, 1200001]), (9, some [73]), (10, none), (11, some [75]), (12, some [64, 76, 1000075]), (16, none), (17, none)] (by kernel_rfl) ?_
                refine l_ds 65 (.one (.view 200001 0 0 ((List.map TLine.enc v16289).length))) ?_
                refine l_ds 66 (.one (.d (.int .i64 v16869))) ?_
                obtain ⟨h13458, h13459, h⟩ := h
                refine l_spec (some 67) (.slc 7 (.t 65) none (some (.t 66)) none) (.one (.view 200001 0 0 (v16869.toNat - 0)), []) (by kernel_rfl) (detA_some (d_slc_vf (enc := TLine.enc) (E := 41) (l := true) (ys := dmm (List.map TLine.enc v16289)) (lo' := none) (hi' := (some v16869)) v16289 (by kernel_rfl) (by kernel_rfl) (by kernel_rfl) (by kernel_rfl) (by kernel_rfl) (b_hi h13458 h13459)) (by kernel_rfl)) ?_
                refine l_ds 69 (.agg [.d (.str r16810.service), .d (.str r16810.version), .d (.str r16810.operation)]) ?_
                refine l_ds 70 (.one (.d (.sl (List.map TTrace.enc l_23)))) ?_
                refine l_ds 71 (.agg [.d (.str r16810.service), .d (.str r16810.version), .d (.str r16810.operation)]) ?_
                refine l_ds 72 (.one (.d (.int .i64 level_23))) ?_
                refine l_ds 77 (.one (.view 200001 0 0 ((List.map TLine.enc v16289).length))) ?_
                refine l_ds 78 (.one (.d (.int .i64 v16869))) ?_
                obtain ⟨h13461, h13462, h⟩ := h
                refine l_spec (some 79) (.slc 7 (.t 77) (some (.t 78)) none none) (.one (.view 200001 0 v16869.toNat (v16289.length - v16869.toNat)), []) (by kernel_rfl) (detA_some (d_slc_vf (enc := TLine.enc) (E := 41) (l := true) (ys := dmm (List.map TLine.enc v16289)) (lo' := (some v16869)) (hi' := none) v16289 (by kernel_rfl) (by kernel_rfl) (by kernel_rfl) (by kernel_rfl) (by kernel_rfl) (b_lo h13461 h13462)) (by kernel_rfl)) ?_
                refine l_det (some 64) (.one (.view 64 1 0 0), [(64, 1, .row true 41 7 [])]) (by kernel_rfl) ?_
                obtain ⟨h13464, h⟩ := h
                refine l_spec (some 68) (.app 41 7 80 [.str ⟨#[]⟩, .str ⟨#[]⟩, .str ⟨#[]⟩, .int .i64 0, .int .i64 0, .int .i64 0, .int .i64 0] (.t 64) (.t 67)) (.one (.view 64 2 0 ((List.map TLine.enc ([] ++ (List.take (v16869.toNat - 0) (List.drop 0 v16289)))).length)), [(64, 2, .row true 41 7 (dmm (List.map TLine.enc ([] ++ (List.take (v16869.toNat - 0) (List.drop 0 v16289))))))]) (by kernel_rfl) (detA_some (d_app_v (enc := TLine.enc) (xc := .view 200001 0 0 (v16869.toNat - 0)) [] (List.take (v16869.toNat - 0) (List.drop 0 v16289)) (by kernel_rfl) (by kernel_rfl) (by kernel_rfl) (by kernel_rfl) (e_part (E := 41) (l := true) v16289 (by kernel_rfl) (by kernel_rfl) (by simp only [List.length_map] at *; omega)) h13464 (by kernel_rfl)) (by kernel_rfl)) ?_
                refine l_call ok45 en45 (some 73) [.one (.d (.sl (List.map TTrace.enc l_23))), .agg [.d (.str r16810.service), .d (.str r16810.version), .d (.str r16810.operation)], .one (.d (.int .i64 level_23))] [false, false, false] [.one (.d (.sl (List.map TTrace.enc l_23))), .agg (List.map RC.d [.str r16810.service, .str r16810.version, .str r16810.operation]), .one (.d (.int .i64 level_23))] [] (by kernel_rfl) ⟨by kernel_rfl, by kernel_rfl⟩ (by kernel_rfl) (by kernel_rfl) (by kernel_rfl) (cl45 l_23 r16810 level_23 h) ?_
                rintro hR _ _ ⟨r16904, rfl, rfl, h⟩
                refine ⟨false, (.agg [.d (.int .i64 r16904.spans), .d (.int .i64 r16904.errors), .d (.int .i64 r16904.duration), .d (.int .i64 r16904.traces)], []), (fun hz => (by cases hz)), (ret_R hR (by kernel_rfl)), ?_⟩
                refine l_ds 74 (.agg [.d (.str r16810.service), .d (.str r16810.version), .d (.str r16810.operation), .d (.int .i64 r16904.spans), .d (.int .i64 r16904.errors), .d (.int .i64 r16904.duration), .d (.int .i64 r16904.traces)]) ?_
                refine l_det (some 75) (.one (.view 75 1 0 1), [(75, 1, .row true 41 7 [[.d (.str r16810.service), .d (.str r16810.version), .d (.str r16810.operation), .d (.int .i64 r16904.spans), .d (.int .i64 r16904.errors), .d (.int .i64 r16904.duration), .d (.int .i64 r16904.traces)]])]) (by kernel_rfl) ?_
                obtain ⟨h13466, h⟩ := h
                refine l_spec (some 76) (.app 41 7 80 [.str ⟨#[]⟩, .str ⟨#[]⟩, .str ⟨#[]⟩, .int .i64 0, .int .i64 0, .int .i64 0, .int .i64 0] (.t 68) (.t 75)) (.one (.view 64 3 0 ((List.map TLine.enc (([] ++ (List.take (v16869.toNat - 0) (List.drop 0 v16289))) ++ [(TLine.mk r16810 r16904)])).length)), [(64, 3, .row true 41 7 (dmm (List.map TLine.enc (([] ++ (List.take (v16869.toNat - 0) (List.drop 0 v16289))) ++ [(TLine.mk r16810 r16904)]))))]) (by kernel_rfl) (detA_some (d_app_v (enc := TLine.enc) (xc := .view 75 1 0 1) ([] ++ (List.take (v16869.toNat - 0) (List.drop 0 v16289))) [(TLine.mk r16810 r16904)] (by kernel_rfl) (by kernel_rfl) (by kernel_rfl) (by kernel_rfl) (by kernel_rfl) h13466 (by kernel_rfl)) (by kernel_rfl)) ?_
                obtain ⟨h13467, h⟩ := h
                refine l_spec (some 80) (.app 41 7 80 [.str ⟨#[]⟩, .str ⟨#[]⟩, .str ⟨#[]⟩, .int .i64 0, .int .i64 0, .int .i64 0, .int .i64 0] (.t 76) (.t 79)) (.one (.view 64 4 0 ((List.map TLine.enc ((([] ++ (List.take (v16869.toNat - 0) (List.drop 0 v16289))) ++ [(TLine.mk r16810 r16904)]) ++ (List.take (v16289.length - v16869.toNat) (List.drop v16869.toNat v16289)))).length)), [(64, 4, .row true 41 7 (dmm (List.map TLine.enc ((([] ++ (List.take (v16869.toNat - 0) (List.drop 0 v16289))) ++ [(TLine.mk r16810 r16904)]) ++ (List.take (v16289.length - v16869.toNat) (List.drop v16869.toNat v16289))))))]) (by kernel_rfl) (detA_none (d_app_v (enc := TLine.enc) (xc := .view 200001 0 v16869.toNat (v16289.length - v16869.toNat)) (([] ++ (List.take (v16869.toNat - 0) (List.drop 0 v16289))) ++ [(TLine.mk r16810 r16904)]) (List.take (v16289.length - v16869.toNat) (List.drop v16869.toNat v16289)) (by kernel_rfl) (by kernel_rfl) (by kernel_rfl) (by kernel_rfl) (e_part (E := 41) (l := true) v16289 (by kernel_rfl) (by kernel_rfl) (by simp only [List.length_map] at *; omega)) h13467 (by kernel_rfl))) ?_
                refine l_ds 5 (.one (.view 64 4 0 ((List.map TLine.enc ((([] ++ (List.take (v16869.toNat - 0) (List.drop 0 v16289))) ++ [(TLine.mk r16810 r16904)]) ++ (List.take (v16289.length - v16869.toNat) (List.drop v16869.toNat v16289)))).length))) ?_
                refine l_nil ?_
                refine q_bfall ?_
                refine q_fall ?_
                exact Lab.m ((([] ++ (List.take (v16869.toNat - 0) (List.drop 0 v16289))) ++ [(TLine.mk r16810 r16904)]) ++ (List.take (v16289.length - v16869.toNat) (List.drop v16869.toNat v16289))) [(200001, some 64)] h
      · rintro v16806 h
        have h : J23_3 N16599 v16290 v16806 := h
        unfold J23_3 at h
        refine AW.regL [(0, none), (1, none), (2, none)] (by kernel_rfl) ?_
        refine l_ds 24 (.one (.d (.int .i64 v16290))) ?_
        refine l_ds 25 (.one (.d (.int .i64 (w64 (v16290 + 1))))) ?_
        refine l_ds 7 (.one (.d (.int .i64 (w64 (v16290 + 1))))) ?_
        refine l_nil ?_
        refine q_fall ?_
        exact Lab.m (v16806, (w64 (v16290 + 1))) [(200001, some 200001)] h
    · refine AW.exit ?_
      refine q_exit ?_
      refine q_exit ?_
      refine q_bhere ?_
      refine q_bfall ?_
      refine q_fall ?_
      refine AW.regL [(0, none), (1, none), (2, none)] (by kernel_rfl) ?_
      refine l_ds 14 (.one (.d (.int .i64 v13198))) ?_
      refine l_ds 15 (.one (.d (.int .i64 (w64 (v13198 + 1))))) ?_
      refine l_ds 6 (.one (.d (.int .i64 (w64 (v13198 + 1))))) ?_
      refine l_nil ?_
      refine q_fall ?_
      exact Lab.m (v16289, (w64 (v13198 + 1))) [(200001, some 200001)] h
  · refine AW.exit ?_
    refine q_exit ?_
    refine q_exit ?_
    refine q_bhere ?_
    refine q_fall ?_
    refine AW.sregL [(0, none), (1, none)] (by kernel_rfl) ?_
    refine l_ds 81 (.one (.view 200001 0 0 ((List.map TLine.enc v13197).length))) ?_
    refine l_ds 4 (.one (.view 200001 0 0 ((List.map TLine.enc v13197).length))) ?_
    refine l_nil ?_
    refine AW.ret ?_
    exact q_end [.one (.view 200001 0 0 ((List.map TLine.enc v13197).length))] [false] [.one (.d (.sl (List.map TLine.enc v13197)))] [] [200001] (by kernel_rfl) (ps_plain (pv_one (pf_view (E := 41) (sz := 7) (l := true) (List.map TLine.enc v13197) (by kernel_rfl) (by kernel_rfl) rfl)) ps_nil) (by kernel_rfl) (by kernel_rfl) (by kernel_rfl) (by kernel_rfl) (Eq.mp (by kernel_rfl) (hK v13197 h)) (.inr rfl)
def r33_0 : List AR := [⟨some 3, .box 39 true 3 (.t 1), [], none⟩,
  ⟨some 4, .alloc 37 true [.int .i64 0, .int .i64 0, .int .i64 0, .int .i64 0], [], none⟩]
def r33_1 : List AR := [⟨some 7, .mov (.t 0), [], none⟩,
  ⟨some 8, .lens (.t 7), [0], none⟩,
  ⟨some 9, .mov (.c (.int .i64 0)), [], none⟩]
def r33_2 : List AR := [⟨some 10, .bin .lss (.t 9) (.t 8), [], none⟩]
def r33_3 : List AR := [⟨some 11, .iad 7 (.t 7) (.t 9), [], none⟩,
  ⟨some 12, .ld true 7 (.t 11), [0], none⟩,
  ⟨some 6, .alloc 41 true [.str ⟨#[]⟩, .str ⟨#[]⟩, .str ⟨#[]⟩, .int .i64 0, .int .i64 0, .int .i64 0, .int .i64 0], [], none⟩,
  ⟨none, .st 7 (.t 6) (.t 12), [2, 1, 0, 1, 2], none⟩]
def r33_4 : List AR := [⟨some 13, .fad (.t 6) 0, [], none⟩,
  ⟨some 14, .ld true 3 (.t 13), [0], none⟩,
  ⟨some 15, .ld true 3 (.t 3), [], none⟩,
  ⟨some 16, .eqs false [.s, .s, .s] (.t 14) (.t 15), [1, 2], none⟩]
def r33_5 : List AR := [⟨some 17, .fad (.t 6) 3, [], none⟩,
  ⟨some 18, .ld true 4 (.t 17), [0], none⟩,
  ⟨none, .st 4 (.t 4) (.t 18), [1, 0, 1], none⟩]
def r33_6 : List AR := [⟨some 19, .bin .add (.t 9) (.c (.int .i64 1)), [], none⟩,
  ⟨some 9, .mov (.t 19), [0], none⟩]
def r33_7 : List AR := [⟨some 20, .bld [.int .i64 0, .int .i64 0, .int .i64 0, .int .i64 0] [], [], none⟩,
  ⟨none, .st 4 (.t 4) (.t 20), [0, 0], none⟩]
def c33 : ACode := .seq (.reg r33_0 false) (.seq (.seq (.reg r33_1 false) (.blk 0 (.loop (.seq (.reg r33_2 false) (.seq (.cond (.t 10) (.skip) (.exit 0)) (.seq (.blk 1 (.seq (.reg r33_3 false) (.seq (.reg r33_4 false) (.cond (.t 16) (.seq (.reg r33_5 false) (.ret)) (.skip))))) (.reg r33_6 false))))))) (.seq (.reg r33_7 false) (.ret)))
theorem body33 : Try.f33.body.map (comp Try.prog 21) = some c33 := by kernel_rfl
theorem res33 : allSome (Try.f33.results.toList.map (compRes Try.prog)) = some [.c 4 true 4] := by kernel_rfl
theorem cok33 {S : FSpec} (h : ∀ args K, S args K → args.all argOk = true ∧ args.length ≤ 21 ∧ AW Try.prog 21 (some ownP) c33 (initS args) (retPost [.c 4 true 4] args K)) : COK Try.prog 33 S := of_body Try.func33 Try.ntmps33 body33 res33 h

def L33_1 (l_33 : List TLine) (g_33 : TGroup) (K : TTotal → Prop) (v16930 : Int) (N16935 : Int → Prop) : Prop :=
  Cond (decide (v16930 < (l_33.length : Int))) (Idx l_33 v16930 fun x16939 => Cond (decide (x16939.group.service = g_33.service) && (decide (x16939.group.version = g_33.version) && (decide (x16939.group.operation = g_33.operation) && true))) (K x16939.total) (N16935 (w64 (v16930 + 1)))) (K (TTotal.mk 0 0 0 0))

/-- sleuth/estimate.Find -/
def W33 (l_33 : List TLine) (g_33 : TGroup) (K : TTotal → Prop) : Prop :=
  LoopW (fun (s : Int) N16935 => L33_1 l_33 g_33 K s N16935) 0

def S33 : FSpec := fun args K => ∃ (l_33 : List TLine), ∃ (g_33 : TGroup), ∃ (Kr : TTotal → Prop), args = [.one (.d (.sl (List.map TLine.enc l_33))), .agg (List.map RC.d (TGroup.enc g_33))] ∧ W33 l_33 g_33 Kr ∧ ∀ r, Kr r → K (.agg (List.map RC.d (TTotal.enc r))) []

theorem en33 : enters Try.prog 33 = true := by unfold enters; rw [Try.func33]; rfl
theorem cl33 (l_33 : List TLine) (g_33 : TGroup) {Kr : TTotal → Prop} (h : W33 l_33 g_33 Kr) : S33 [.one (.d (.sl (List.map TLine.enc l_33))), .agg (List.map RC.d (TGroup.enc g_33))] (fun rv rows => ∃ r, rv = (.agg (List.map RC.d (TTotal.enc r))) ∧ rows = [] ∧ Kr r) := ⟨l_33, g_33, Kr, rfl, h, fun r hr => ⟨r, rfl, rfl, hr⟩⟩

theorem ok33 : COK Try.prog 33 S33 := by
  refine cok33 fun args K0 hS => ?_
  obtain ⟨l_33, g_33, K, rfl, h, hK⟩ := hS
  refine ⟨by kernel_rfl, by simp, ?_⟩
  unfold W33 at h
  refine AW.sregL [(0, none), (1, none)] (by kernel_rfl) ?_
  refine l_det (some 3) (.one (.ref 3 1 0 0), [(3, 1, .row true 39 3 [[.d (.str g_33.service), .d (.str g_33.version), .d (.str g_33.operation)]])]) (by kernel_rfl) ?_
  refine l_det (some 4) (.one (.ref 4 1 0 0), [(4, 1, .row true 37 4 [[.d (.int .i64 0), .d (.int .i64 0), .d (.int .i64 0), .d (.int .i64 0)]])]) (by kernel_rfl) ?_
  refine l_nil ?_
  refine AW.seq ?_
  refine AW.sregL [(0, none), (1, none), (2, none)] (by kernel_rfl) ?_
  refine l_ds 7 (.one (.d (.sl (List.map TLine.enc l_33)))) ?_
  refine l_spec (some 8) (.lens (.t 7)) (.one (.d (.int .i64 (l_33.length : Int))), []) (by kernel_rfl) (detA_none (d_lens_sl (enc := TLine.enc) l_33 (by kernel_rfl))) ?_
  refine l_ds 9 (.one (.d (.int .i64 0))) ?_
  refine l_nil ?_
  refine AW.blk ?_
  refine AW.loopL (S := Int) (fun s => (fun (v16930 : Int) => [(3, .one (.ref 200001 0 0 0)), (4, .one (.ref 200002 0 0 0)), (7, .one (.d (.sl (List.map TLine.enc l_33)))), (8, .one (.d (.int .i64 (l_33.length : Int)))), (9, .one (.d (.int .i64 v16930)))]) s) (fun s => (fun (v16930 : Int) => [(200001, .expl true 39 3 [[.d (.str g_33.service), .d (.str g_33.version), .d (.str g_33.operation)]]), (200002, .expl true 37 4 [[.d (.int .i64 0), .d (.int .i64 0), .d (.int .i64 0), .d (.int .i64 0)]])]) s) (fun (s : Int) N16935 => L33_1 l_33 g_33 K s N16935) (N := fun s => LoopW (fun (s : Int) N16935 => L33_1 l_33 g_33 K s N16935) s) (Lab.m 0 [(200001, some 3), (200002, some 4)] h) (fun _ h => h) ?_
  rintro v16930 N16935 h
  have h : L33_1 l_33 g_33 K v16930 N16935 := h
  unfold L33_1 at h
  refine AW.sregL [(0, none)] (by kernel_rfl) ?_
  refine l_ds 10 (.one (.d (.bool (decide (v16930 < (l_33.length : Int)))))) ?_
  refine l_nil ?_
  refine AW.seq ?_
  refine AW.cond' (by kernel_rfl) h (fun h => ?_) (fun h => ?_)
  · refine AW.skip ?_
    refine q_fall ?_
    refine AW.seq ?_
    refine AW.blk ?_
    refine AW.sregL [(0, none), (1, none), (2, none), (3, none)] (by kernel_rfl) ?_
    obtain ⟨h47, x16939, h48, h⟩ := h
    refine l_spec (some 11) (.iad 7 (.t 7) (.t 9)) (.one (.d (.ptr [.str x16939.group.service, .str x16939.group.version, .str x16939.group.operation, .int .i64 x16939.total.spans, .int .i64 x16939.total.errors, .int .i64 x16939.total.duration, .int .i64 x16939.total.traces])), []) (by kernel_rfl) (detA_none (d_iad_sl (enc := TLine.enc) (k := .i64) l_33 x16939 (by kernel_rfl) (by kernel_rfl) h47 h48 rfl)) ?_
    refine l_ds 12 (.agg [.d (.str x16939.group.service), .d (.str x16939.group.version), .d (.str x16939.group.operation), .d (.int .i64 x16939.total.spans), .d (.int .i64 x16939.total.errors), .d (.int .i64 x16939.total.duration), .d (.int .i64 x16939.total.traces)]) ?_
    refine l_det (some 6) (.one (.ref 6 1 0 0), [(6, 1, .row true 41 7 [[.d (.str (⟨#[]⟩ : ByteArray)), .d (.str (⟨#[]⟩ : ByteArray)), .d (.str (⟨#[]⟩ : ByteArray)), .d (.int .i64 0), .d (.int .i64 0), .d (.int .i64 0), .d (.int .i64 0)]])]) (by kernel_rfl) ?_
    refine l_det none (.tup [], [(6, 1, .row true 41 7 [[.d (.str x16939.group.service), .d (.str x16939.group.version), .d (.str x16939.group.operation), .d (.int .i64 x16939.total.spans), .d (.int .i64 x16939.total.errors), .d (.int .i64 x16939.total.duration), .d (.int .i64 x16939.total.traces)]])]) (by kernel_rfl) ?_
    refine l_nil ?_
    refine AW.sregL [(0, none), (1, none), (2, none), (3, none)] (by kernel_rfl) ?_
    refine l_ds 13 (.one (.ref 6 1 0 0)) ?_
    refine l_ds 14 (.agg [.d (.str x16939.group.service), .d (.str x16939.group.version), .d (.str x16939.group.operation)]) ?_
    refine l_ds 15 (.agg [.d (.str g_33.service), .d (.str g_33.version), .d (.str g_33.operation)]) ?_
    refine l_ds 16 (.one (.d (.bool (decide (x16939.group.service = g_33.service) && (decide (x16939.group.version = g_33.version) && (decide (x16939.group.operation = g_33.operation) && true)))))) ?_
    refine l_nil ?_
    refine AW.cond' (by kernel_rfl) h (fun h => ?_) (fun h => ?_)
    · refine AW.sregL [(0, none), (1, none), (2, none)] (by kernel_rfl) ?_
      refine l_ds 17 (.one (.ref 6 1 0 3)) ?_
      refine l_ds 18 (.agg [.d (.int .i64 x16939.total.spans), .d (.int .i64 x16939.total.errors), .d (.int .i64 x16939.total.duration), .d (.int .i64 x16939.total.traces)]) ?_
      refine l_det none (.tup [], [(200002, 0, .row true 37 4 [[.d (.int .i64 x16939.total.spans), .d (.int .i64 x16939.total.errors), .d (.int .i64 x16939.total.duration), .d (.int .i64 x16939.total.traces)]])]) (by kernel_rfl) ?_
      refine l_nil ?_
      refine AW.ret ?_
      refine q_bret ?_
      refine q_ret ?_
      refine q_ret ?_
      refine q_bret ?_
      refine q_ret ?_
      exact q_end [.agg [.d (.int .i64 x16939.total.spans), .d (.int .i64 x16939.total.errors), .d (.int .i64 x16939.total.duration), .d (.int .i64 x16939.total.traces)]] [false] [.agg (List.map RC.d [.int .i64 x16939.total.spans, .int .i64 x16939.total.errors, .int .i64 x16939.total.duration, .int .i64 x16939.total.traces])] [] [] (by kernel_rfl) ⟨by kernel_rfl, by kernel_rfl⟩ (by kernel_rfl) (by kernel_rfl) (by kernel_rfl) (by kernel_rfl) (Eq.mp (by kernel_rfl) (hK x16939.total h)) (.inr rfl)
    · refine AW.skip ?_
      refine q_bfall ?_
      refine q_fall ?_
      refine AW.regL [(0, none), (1, none)] (by kernel_rfl) ?_
      refine l_ds 19 (.one (.d (.int .i64 (w64 (v16930 + 1))))) ?_
      refine l_ds 9 (.one (.d (.int .i64 (w64 (v16930 + 1))))) ?_
      refine l_nil ?_
      refine q_fall ?_
      exact Lab.m (w64 (v16930 + 1)) [(200001, some 200001), (200002, some 200002)] h
  · refine AW.exit ?_
    refine q_exit ?_
    refine q_exit ?_
    refine q_bhere ?_
    refine q_fall ?_
    refine AW.sregL [(0, none), (1, none)] (by kernel_rfl) ?_
    refine l_ds 20 (.agg [.d (.int .i64 0), .d (.int .i64 0), .d (.int .i64 0), .d (.int .i64 0)]) ?_
    refine l_det none (.tup [], [(200002, 0, .row true 37 4 [[.d (.int .i64 0), .d (.int .i64 0), .d (.int .i64 0), .d (.int .i64 0)]])]) (by kernel_rfl) ?_
    refine l_nil ?_
    refine AW.ret ?_
    exact q_end [.agg [.d (.int .i64 0), .d (.int .i64 0), .d (.int .i64 0), .d (.int .i64 0)]] [false] [.agg (List.map RC.d [.int .i64 0, .int .i64 0, .int .i64 0, .int .i64 0])] [] [] (by kernel_rfl) ⟨by kernel_rfl, by kernel_rfl⟩ (by kernel_rfl) (by kernel_rfl) (by kernel_rfl) (by kernel_rfl) (Eq.mp (by kernel_rfl) (hK (TTotal.mk 0 0 0 0) h)) (.inr rfl)
def r15_0 : List AR := [⟨some 2, .box 37 true 4 (.t 0), [], none⟩,
  ⟨some 3, .box 37 true 4 (.t 1), [], none⟩,
  ⟨some 4, .alloc 37 true [.int .i64 0, .int .i64 0, .int .i64 0, .int .i64 0], [], none⟩]
def r15_1 : List AR := [⟨some 5, .fad (.t 2) 0, [], none⟩,
  ⟨some 6, .ld false 1 (.t 5), [0], none⟩,
  ⟨some 7, .fad (.t 3) 0, [], none⟩,
  ⟨some 8, .ld false 1 (.t 7), [2], none⟩,
  ⟨some 9, .bin .add (.t 6) (.t 8), [1, 3], none⟩,
  ⟨some 10, .fad (.t 2) 1, [], none⟩,
  ⟨some 11, .ld false 1 (.t 10), [5], none⟩,
  ⟨some 12, .fad (.t 3) 1, [], none⟩,
  ⟨some 13, .ld false 1 (.t 12), [7], none⟩,
  ⟨some 14, .bin .add (.t 11) (.t 13), [6, 8], none⟩,
  ⟨some 15, .fad (.t 2) 2, [], none⟩,
  ⟨some 16, .ld false 1 (.t 15), [10], none⟩,
  ⟨some 17, .fad (.t 3) 2, [], none⟩,
  ⟨some 18, .ld false 1 (.t 17), [12], none⟩,
  ⟨some 19, .bin .add (.t 16) (.t 18), [11, 13], none⟩,
  ⟨some 20, .fad (.t 2) 3, [], none⟩,
  ⟨some 21, .ld false 1 (.t 20), [15], none⟩,
  ⟨some 22, .fad (.t 3) 3, [], none⟩,
  ⟨some 23, .ld false 1 (.t 22), [17], none⟩,
  ⟨some 24, .bin .add (.t 21) (.t 23), [16, 18], none⟩,
  ⟨some 25, .bld [.int .i64 0, .int .i64 0, .int .i64 0, .int .i64 0] [(0, 1, .t 9), (1, 1, .t 14), (2, 1, .t 19), (3, 1, .t 24)], [4, 9, 14, 19], none⟩,
  ⟨none, .st 4 (.t 4) (.t 25), [20, 0, 1, 2, 3, 4, 5, 6, 7, 8, 9, 10, 11, 12, 13, 14, 15, 16, 17, 18, 19, 20], none⟩]
def c15 : ACode := .seq (.reg r15_0 false) (.seq (.reg r15_1 false) (.ret))
theorem body15 : Try.f15.body.map (comp Try.prog 26) = some c15 := by kernel_rfl
theorem res15 : allSome (Try.f15.results.toList.map (compRes Try.prog)) = some [.c 4 true 4] := by kernel_rfl
theorem cok15 {S : FSpec} (h : ∀ args K, S args K → args.all argOk = true ∧ args.length ≤ 26 ∧ AW Try.prog 26 (some ownP) c15 (initS args) (retPost [.c 4 true 4] args K)) : COK Try.prog 15 S := of_body Try.func15 Try.ntmps15 body15 res15 h

/-- sleuth/sleuthlaw25.add -/
def W15 (a_15 : TTotal) (b_15 : TTotal) (K : TTotal → Prop) : Prop :=
  K (TTotal.mk (w64 (a_15.spans + b_15.spans)) (w64 (a_15.errors + b_15.errors)) (w64 (a_15.duration + b_15.duration)) (w64 (a_15.traces + b_15.traces)))

def S15 : FSpec := fun args K => ∃ (a_15 : TTotal), ∃ (b_15 : TTotal), ∃ (Kr : TTotal → Prop), args = [.agg (List.map RC.d (TTotal.enc a_15)), .agg (List.map RC.d (TTotal.enc b_15))] ∧ W15 a_15 b_15 Kr ∧ ∀ r, Kr r → K (.agg (List.map RC.d (TTotal.enc r))) []

theorem en15 : enters Try.prog 15 = true := by unfold enters; rw [Try.func15]; rfl
theorem cl15 (a_15 : TTotal) (b_15 : TTotal) {Kr : TTotal → Prop} (h : W15 a_15 b_15 Kr) : S15 [.agg (List.map RC.d (TTotal.enc a_15)), .agg (List.map RC.d (TTotal.enc b_15))] (fun rv rows => ∃ r, rv = (.agg (List.map RC.d (TTotal.enc r))) ∧ rows = [] ∧ Kr r) := ⟨a_15, b_15, Kr, rfl, h, fun r hr => ⟨r, rfl, rfl, hr⟩⟩

theorem ok15 : COK Try.prog 15 S15 := by
  refine cok15 fun args K0 hS => ?_
  obtain ⟨a_15, b_15, K, rfl, h, hK⟩ := hS
  refine ⟨by kernel_rfl, by simp, ?_⟩
  unfold W15 at h
  refine AW.sregL [(0, none), (1, none), (2, none)] (by kernel_rfl) ?_
  refine l_det (some 2) (.one (.ref 2 1 0 0), [(2, 1, .row true 37 4 [[.d (.int .i64 a_15.spans), .d (.int .i64 a_15.errors), .d (.int .i64 a_15.duration), .d (.int .i64 a_15.traces)]])]) (by kernel_rfl) ?_
  refine l_det (some 3) (.one (.ref 3 1 0 0), [(3, 1, .row true 37 4 [[.d (.int .i64 b_15.spans), .d (.int .i64 b_15.errors), .d (.int .i64 b_15.duration), .d (.int .i64 b_15.traces)]])]) (by kernel_rfl) ?_
  refine l_det (some 4) (.one (.ref 4 1 0 0), [(4, 1, .row true 37 4 [[.d (.int .i64 0), .d (.int .i64 0), .d (.int .i64 0), .d (.int .i64 0)]])]) (by kernel_rfl) ?_
  refine l_nil ?_
  refine AW.sregL [(0, none), (1, none), (2, none), (3, none), (4, none), (5, none), (6, none), (7, none), (8, none), (9, none), (10, none), (11, none), (12, none), (13, none), (14, none), (15, none), (16, none), (17, none), (18, none), (19, none), (20, none), (21, none)] (by kernel_rfl) ?_
  refine l_ds 5 (.one (.ref 2 1 0 0)) ?_
  refine l_ds 6 (.one (.d (.int .i64 a_15.spans))) ?_
  refine l_ds 7 (.one (.ref 3 1 0 0)) ?_
  refine l_ds 8 (.one (.d (.int .i64 b_15.spans))) ?_
  refine l_ds 9 (.one (.d (.int .i64 (w64 (a_15.spans + b_15.spans))))) ?_
  refine l_ds 10 (.one (.ref 2 1 0 1)) ?_
  refine l_ds 11 (.one (.d (.int .i64 a_15.errors))) ?_
  refine l_ds 12 (.one (.ref 3 1 0 1)) ?_
  refine l_ds 13 (.one (.d (.int .i64 b_15.errors))) ?_
  refine l_ds 14 (.one (.d (.int .i64 (w64 (a_15.errors + b_15.errors))))) ?_
  refine l_ds 15 (.one (.ref 2 1 0 2)) ?_
  refine l_ds 16 (.one (.d (.int .i64 a_15.duration))) ?_
  refine l_ds 17 (.one (.ref 3 1 0 2)) ?_
  refine l_ds 18 (.one (.d (.int .i64 b_15.duration))) ?_
  refine l_ds 19 (.one (.d (.int .i64 (w64 (a_15.duration + b_15.duration))))) ?_
  refine l_ds 20 (.one (.ref 2 1 0 3)) ?_
  refine l_ds 21 (.one (.d (.int .i64 a_15.traces))) ?_
  refine l_ds 22 (.one (.ref 3 1 0 3)) ?_
  refine l_ds 23 (.one (.d (.int .i64 b_15.traces))) ?_
  refine l_ds 24 (.one (.d (.int .i64 (w64 (a_15.traces + b_15.traces))))) ?_
  refine l_ds 25 (.agg [.d (.int .i64 (w64 (a_15.spans + b_15.spans))), .d (.int .i64 (w64 (a_15.errors + b_15.errors))), .d (.int .i64 (w64 (a_15.duration + b_15.duration))), .d (.int .i64 (w64 (a_15.traces + b_15.traces)))]) ?_
  refine l_det none (.tup [], [(4, 1, .row true 37 4 [[.d (.int .i64 (w64 (a_15.spans + b_15.spans))), .d (.int .i64 (w64 (a_15.errors + b_15.errors))), .d (.int .i64 (w64 (a_15.duration + b_15.duration))), .d (.int .i64 (w64 (a_15.traces + b_15.traces)))]])]) (by kernel_rfl) ?_
  refine l_nil ?_
  refine AW.ret ?_
  exact q_end [.agg [.d (.int .i64 (w64 (a_15.spans + b_15.spans))), .d (.int .i64 (w64 (a_15.errors + b_15.errors))), .d (.int .i64 (w64 (a_15.duration + b_15.duration))), .d (.int .i64 (w64 (a_15.traces + b_15.traces)))]] [false] [.agg (List.map RC.d [.int .i64 (w64 (a_15.spans + b_15.spans)), .int .i64 (w64 (a_15.errors + b_15.errors)), .int .i64 (w64 (a_15.duration + b_15.duration)), .int .i64 (w64 (a_15.traces + b_15.traces))])] [] [] (by kernel_rfl) ⟨by kernel_rfl, by kernel_rfl⟩ (by kernel_rfl) (by kernel_rfl) (by kernel_rfl) (by kernel_rfl) (Eq.mp (by kernel_rfl) (hK (TTotal.mk (w64 (a_15.spans + b_15.spans)) (w64 (a_15.errors + b_15.errors)) (w64 (a_15.duration + b_15.duration)) (w64 (a_15.traces + b_15.traces))) h)) (.inr rfl)
def r34_0 : List AR := [⟨some 2, .alloc 37 true [.int .i64 0, .int .i64 0, .int .i64 0, .int .i64 0], [], none⟩]
def r34_1 : List AR := [⟨some 3, .alloc 37 true [.int .i64 0, .int .i64 0, .int .i64 0, .int .i64 0], [], none⟩]
def r34_2 : List AR := [⟨some 6, .mov (.t 0), [], none⟩,
  ⟨some 7, .lens (.t 6), [0], none⟩,
  ⟨some 8, .mov (.c (.int .i64 0)), [], none⟩]
def r34_3 : List AR := [⟨some 9, .bin .lss (.t 8) (.t 7), [], none⟩]
def r34_4 : List AR := [⟨some 10, .iad 7 (.t 6) (.t 8), [], none⟩,
  ⟨some 11, .ld true 7 (.t 10), [0], none⟩,
  ⟨some 5, .alloc 41 true [.str ⟨#[]⟩, .str ⟨#[]⟩, .str ⟨#[]⟩, .int .i64 0, .int .i64 0, .int .i64 0, .int .i64 0], [], none⟩,
  ⟨none, .st 7 (.t 5) (.t 11), [2, 1, 0, 1, 2], none⟩]
def r34_5 : List AR := [⟨some 12, .ld true 4 (.t 3), [], none⟩,
  ⟨some 13, .fad (.t 5) 3, [], none⟩,
  ⟨some 14, .ld true 4 (.t 13), [1], none⟩,
  ⟨some 15, .call 39 [.t 12, .t 14], [0, 2], none⟩,
  ⟨none, .st 4 (.t 3) (.t 15), [3, 3, 0, 1, 2, 3], none⟩]
def r34_6 : List AR := [⟨some 16, .bin .add (.t 8) (.c (.int .i64 1)), [], none⟩,
  ⟨some 8, .mov (.t 16), [0], none⟩]
def r34_7 : List AR := [⟨some 17, .ld true 4 (.t 3), [], none⟩,
  ⟨none, .st 4 (.t 2) (.t 17), [0, 0], none⟩]
def c34 : ACode := .seq (.reg r34_0 false) (.seq (.reg r34_1 false) (.seq (.seq (.reg r34_2 false) (.blk 0 (.loop (.seq (.reg r34_3 false) (.seq (.cond (.t 9) (.skip) (.exit 0)) (.seq (.blk 1 (.seq (.reg r34_4 false) (.reg r34_5 false))) (.reg r34_6 false))))))) (.seq (.reg r34_7 false) (.ret))))
theorem body34 : Try.f34.body.map (comp Try.prog 18) = some c34 := by kernel_rfl
theorem res34 : allSome (Try.f34.results.toList.map (compRes Try.prog)) = some [.c 2 true 4] := by kernel_rfl
theorem cok34 {S : FSpec} (h : ∀ args K, S args K → args.all argOk = true ∧ args.length ≤ 18 ∧ AW Try.prog 18 (some ownP) c34 (initS args) (retPost [.c 2 true 4] args K)) : COK Try.prog 34 S := of_body Try.func34 Try.ntmps34 body34 res34 h

def L34_1 (l_34 : List TLine) (K : TTotal → Prop) (v17623 : Int) (v17624 : Int) (v17625 : Int) (v17626 : Int) (v17627 : Int) (N17634 : (Int × Int × Int × Int × Int) → Prop) : Prop :=
  Cond (decide (v17627 < (l_34.length : Int))) (Idx l_34 v17627 fun x17639 => W39 (TTotal.mk v17623 v17624 v17625 v17626) x17639.total fun r17640 => N17634 (r17640.spans, r17640.errors, r17640.duration, r17640.traces, (w64 (v17627 + 1)))) (K (TTotal.mk v17623 v17624 v17625 v17626))

/-- sleuth/estimate.Sum -/
def W34 (l_34 : List TLine) (K : TTotal → Prop) : Prop :=
  LoopW (fun (s : (Int × Int × Int × Int × Int)) N17634 => L34_1 l_34 K s.1 s.2.1 s.2.2.1 s.2.2.2.1 s.2.2.2.2 N17634) (0, 0, 0, 0, 0)

def S34 : FSpec := fun args K => ∃ (l_34 : List TLine), ∃ (Kr : TTotal → Prop), args = [.one (.d (.sl (List.map TLine.enc l_34)))] ∧ W34 l_34 Kr ∧ ∀ r, Kr r → K (.agg (List.map RC.d (TTotal.enc r))) []

theorem en34 : enters Try.prog 34 = true := by unfold enters; rw [Try.func34]; rfl
theorem cl34 (l_34 : List TLine) {Kr : TTotal → Prop} (h : W34 l_34 Kr) : S34 [.one (.d (.sl (List.map TLine.enc l_34)))] (fun rv rows => ∃ r, rv = (.agg (List.map RC.d (TTotal.enc r))) ∧ rows = [] ∧ Kr r) := ⟨l_34, Kr, rfl, h, fun r hr => ⟨r, rfl, rfl, hr⟩⟩

theorem ok34 : COK Try.prog 34 S34 := by
  refine cok34 fun args K0 hS => ?_
  obtain ⟨l_34, K, rfl, h, hK⟩ := hS
  refine ⟨by kernel_rfl, by simp, ?_⟩
  unfold W34 at h
  refine AW.sregL [(0, none)] (by kernel_rfl) ?_
  refine l_det (some 2) (.one (.ref 2 1 0 0), [(2, 1, .row true 37 4 [[.d (.int .i64 0), .d (.int .i64 0), .d (.int .i64 0), .d (.int .i64 0)]])]) (by kernel_rfl) ?_
  refine l_nil ?_
  refine AW.sregL [(0, none)] (by kernel_rfl) ?_
  refine l_det (some 3) (.one (.ref 3 1 0 0), [(3, 1, .row true 37 4 [[.d (.int .i64 0), .d (.int .i64 0), .d (.int .i64 0), .d (.int .i64 0)]])]) (by kernel_rfl) ?_
  refine l_nil ?_
  refine AW.seq ?_
  refine AW.sregL [(0, none), (1, none), (2, none)] (by kernel_rfl) ?_
  refine l_ds 6 (.one (.d (.sl (List.map TLine.enc l_34)))) ?_
  refine l_spec (some 7) (.lens (.t 6)) (.one (.d (.int .i64 (l_34.length : Int))), []) (by kernel_rfl) (detA_none (d_lens_sl (enc := TLine.enc) l_34 (by kernel_rfl))) ?_
  refine l_ds 8 (.one (.d (.int .i64 0))) ?_
  refine l_nil ?_
  refine AW.blk ?_
  refine AW.loopL (S := (Int × Int × Int × Int × Int)) (fun s => (fun (v17623 : Int) (v17624 : Int) (v17625 : Int) (v17626 : Int) (v17627 : Int) => [(2, .one (.ref 200001 0 0 0)), (3, .one (.ref 200002 0 0 0)), (6, .one (.d (.sl (List.map TLine.enc l_34)))), (7, .one (.d (.int .i64 (l_34.length : Int)))), (8, .one (.d (.int .i64 v17627)))]) s.1 s.2.1 s.2.2.1 s.2.2.2.1 s.2.2.2.2) (fun s => (fun (v17623 : Int) (v17624 : Int) (v17625 : Int) (v17626 : Int) (v17627 : Int) => [(200001, .expl true 37 4 [[.d (.int .i64 0), .d (.int .i64 0), .d (.int .i64 0), .d (.int .i64 0)]]), (200002, .expl true 37 4 [[.d (.int .i64 v17623), .d (.int .i64 v17624), .d (.int .i64 v17625), .d (.int .i64 v17626)]])]) s.1 s.2.1 s.2.2.1 s.2.2.2.1 s.2.2.2.2) (fun (s : (Int × Int × Int × Int × Int)) N17634 => L34_1 l_34 K s.1 s.2.1 s.2.2.1 s.2.2.2.1 s.2.2.2.2 N17634) (N := fun s => LoopW (fun (s : (Int × Int × Int × Int × Int)) N17634 => L34_1 l_34 K s.1 s.2.1 s.2.2.1 s.2.2.2.1 s.2.2.2.2 N17634) s) (Lab.m (0, 0, 0, 0, 0) [(200001, some 2), (200002, some 3)] h) (fun _ h => h) ?_
  rintro ⟨v17623, v17624, v17625, v17626, v17627⟩ N17634 h
  have h : L34_1 l_34 K v17623 v17624 v17625 v17626 v17627 N17634 := h
  unfold L34_1 at h
  refine AW.sregL [(0, none)] (by kernel_rfl) ?_
  refine l_ds 9 (.one (.d (.bool (decide (v17627 < (l_34.length : Int)))))) ?_
  refine l_nil ?_
  refine AW.seq ?_
  refine AW.cond' (by kernel_rfl) h (fun h => ?_) (fun h => ?_)
  · refine AW.skip ?_
    refine q_fall ?_
    refine AW.seq ?_
    refine AW.blk ?_
    refine AW.sregL [(0, none), (1, none), (2, none), (3, none)] (by kernel_rfl) ?_
    obtain ⟨h58, x17639, h59, h⟩ := h
    refine l_spec (some 10) (.iad 7 (.t 6) (.t 8)) (.one (.d (.ptr [.str x17639.group.service, .str x17639.group.version, .str x17639.group.operation, .int .i64 x17639.total.spans, .int .i64 x17639.total.errors, .int .i64 x17639.total.duration, .int .i64 x17639.total.traces])), []) (by kernel_rfl) (detA_none (d_iad_sl (enc := TLine.enc) (k := .i64) l_34 x17639 (by kernel_rfl) (by kernel_rfl) h58 h59 rfl)) ?_
    refine l_ds 11 (.agg [.d (.str x17639.group.service), .d (.str x17639.group.version), .d (.str x17639.group.operation), .d (.int .i64 x17639.total.spans), .d (.int .i64 x17639.total.errors), .d (.int .i64 x17639.total.duration), .d (.int .i64 x17639.total.traces)]) ?_
    refine l_det (some 5) (.one (.ref 5 1 0 0), [(5, 1, .row true 41 7 [[.d (.str (⟨#[]⟩ : ByteArray)), .d (.str (⟨#[]⟩ : ByteArray)), .d (.str (⟨#[]⟩ : ByteArray)), .d (.int .i64 0), .d (.int .i64 0), .d (.int .i64 0), .d (.int .i64 0)]])]) (by kernel_rfl) ?_
    refine l_det none (.tup [], [(5, 1, .row true 41 7 [[.d (.str x17639.group.service), .d (.str x17639.group.version), .d (.str x17639.group.operation), .d (.int .i64 x17639.total.spans), .d (.int .i64 x17639.total.errors), .d (.int .i64 x17639.total.duration), .d (.int .i64 x17639.total.traces)]])]) (by kernel_rfl) ?_
    refine l_nil ?_
    refine AW.regL [(0, none), (1, none), (2, none), (3, none), (4, none)] (by kernel_rfl) ?_
    refine l_ds 12 (.agg [.d (.int .i64 v17623), .d (.int .i64 v17624), .d (.int .i64 v17625), .d (.int .i64 v17626)]) ?_
    refine l_ds 13 (.one (.ref 5 1 0 3)) ?_
    refine l_ds 14 (.agg [.d (.int .i64 x17639.total.spans), .d (.int .i64 x17639.total.errors), .d (.int .i64 x17639.total.duration), .d (.int .i64 x17639.total.traces)]) ?_
    refine l_call ok39 en39 (some 15) [.agg [.d (.int .i64 v17623), .d (.int .i64 v17624), .d (.int .i64 v17625), .d (.int .i64 v17626)], .agg [.d (.int .i64 x17639.total.spans), .d (.int .i64 x17639.total.errors), .d (.int .i64 x17639.total.duration), .d (.int .i64 x17639.total.traces)]] [false, false] [.agg (List.map RC.d [.int .i64 v17623, .int .i64 v17624, .int .i64 v17625, .int .i64 v17626]), .agg (List.map RC.d [.int .i64 x17639.total.spans, .int .i64 x17639.total.errors, .int .i64 x17639.total.duration, .int .i64 x17639.total.traces])] [] (by kernel_rfl) ⟨by kernel_rfl, by kernel_rfl⟩ (by kernel_rfl) (by kernel_rfl) (by kernel_rfl) (cl39 (TTotal.mk v17623 v17624 v17625 v17626) x17639.total h) ?_
    rintro hR _ _ ⟨r17640, rfl, rfl, h⟩
    refine ⟨false, (.agg [.d (.int .i64 r17640.spans), .d (.int .i64 r17640.errors), .d (.int .i64 r17640.duration), .d (.int .i64 r17640.traces)], []), (fun hz => (by cases hz)), (ret_R hR (by kernel_rfl)), ?_⟩
    refine l_det none (.tup [], [(200002, 0, .row true 37 4 [[.d (.int .i64 r17640.spans), .d (.int .i64 r17640.errors), .d (.int .i64 r17640.duration), .d (.int .i64 r17640.traces)]])]) (by kernel_rfl) ?_
    refine l_nil ?_
    refine q_bfall ?_
    refine q_fall ?_
    refine AW.regL [(0, none), (1, none)] (by kernel_rfl) ?_
    refine l_ds 16 (.one (.d (.int .i64 (w64 (v17627 + 1))))) ?_
    refine l_ds 8 (.one (.d (.int .i64 (w64 (v17627 + 1))))) ?_
    refine l_nil ?_
    refine q_fall ?_
    exact Lab.m (r17640.spans, r17640.errors, r17640.duration, r17640.traces, (w64 (v17627 + 1))) [(200001, some 200001), (200002, some 200002)] h
  · refine AW.exit ?_
    refine q_exit ?_
    refine q_exit ?_
    refine q_bhere ?_
    refine q_fall ?_
    refine AW.sregL [(0, none), (1, none)] (by kernel_rfl) ?_
    refine l_ds 17 (.agg [.d (.int .i64 v17623), .d (.int .i64 v17624), .d (.int .i64 v17625), .d (.int .i64 v17626)]) ?_
    refine l_det none (.tup [], [(200001, 0, .row true 37 4 [[.d (.int .i64 v17623), .d (.int .i64 v17624), .d (.int .i64 v17625), .d (.int .i64 v17626)]])]) (by kernel_rfl) ?_
    refine l_nil ?_
    refine AW.ret ?_
    exact q_end [.agg [.d (.int .i64 v17623), .d (.int .i64 v17624), .d (.int .i64 v17625), .d (.int .i64 v17626)]] [false] [.agg (List.map RC.d [.int .i64 v17623, .int .i64 v17624, .int .i64 v17625, .int .i64 v17626])] [] [] (by kernel_rfl) ⟨by kernel_rfl, by kernel_rfl⟩ (by kernel_rfl) (by kernel_rfl) (by kernel_rfl) (by kernel_rfl) (Eq.mp (by kernel_rfl) (hK (TTotal.mk v17623 v17624 v17625 v17626) h)) (.inr rfl)
def r58_0 : List AR := [⟨some 2, .mov (.c .nils), [], none⟩]
def r58_1 : List AR := [⟨some 3, .mov (.t 0), [], none⟩,
  ⟨some 4, .isn (.t 3), [0], none⟩]
def r58_2 : List AR := [⟨some 2, .mov (.c .nils), [], none⟩]
def r58_3 : List AR := [⟨some 5, .bsl 41 7 0 [.str ⟨#[]⟩, .str ⟨#[]⟩, .str ⟨#[]⟩, .int .i64 0, .int .i64 0, .int .i64 0, .int .i64 0] [], [], none⟩,
  ⟨some 6, .mov (.t 0), [], none⟩,
  ⟨some 7, .app 41 7 80 [.str ⟨#[]⟩, .str ⟨#[]⟩, .str ⟨#[]⟩, .int .i64 0, .int .i64 0, .int .i64 0, .int .i64 0] (.t 5) (.t 6), [0, 1], none⟩,
  ⟨some 2, .mov (.t 7), [2, 2, 0, 1, 2], none⟩]
def c58 : ACode := .seq (.reg r58_0 false) (.seq (.seq (.reg r58_1 false) (.cond (.t 4) (.seq (.reg r58_2 false) (.ret)) (.skip))) (.seq (.reg r58_3 false) (.ret)))
theorem body58 : Try.f58.body.map (comp Try.prog 8) = some c58 := by kernel_rfl
theorem res58 : allSome (Try.f58.results.toList.map (compRes Try.prog)) = some [.s 2] := by kernel_rfl
theorem cok58 {S : FSpec} (h : ∀ args K, S args K → args.all argOk = true ∧ args.length ≤ 8 ∧ AW Try.prog 8 (some ownP) c58 (initS args) (retPost [.s 2] args K)) : COK Try.prog 58 S := of_body Try.func58 Try.ntmps58 body58 res58 h

/-- slices.Clone[[]sleuth/estimate.Line,sleuth/estimate.Line] -/
def W58 (s_58 : List TLine) (K : (List TLine) → Prop) : Prop :=
  ∀ b17645 : Bool, (b17645 = true → s_58 = []) → (Cond b17645 (K []) (Fits (([] ++ s_58).length * 80) (K ([] ++ s_58))))

def S58 : FSpec := fun args K => ∃ (s_58 : List TLine), ∃ (Kr : (List TLine) → Prop), args = [.one (.d (.sl (List.map TLine.enc s_58)))] ∧ W58 s_58 Kr ∧ ∀ r, Kr r → K (.one (.own 41 7 (List.map TLine.enc r))) []

theorem en58 : enters Try.prog 58 = true := by unfold enters; rw [Try.func58]; rfl
theorem cl58 (s_58 : List TLine) {Kr : (List TLine) → Prop} (h : W58 s_58 Kr) : S58 [.one (.d (.sl (List.map TLine.enc s_58)))] (fun rv rows => ∃ r, rv = (.one (.own 41 7 (List.map TLine.enc r))) ∧ rows = [] ∧ Kr r) := ⟨s_58, Kr, rfl, h, fun r hr => ⟨r, rfl, rfl, hr⟩⟩

theorem ok58 : COK Try.prog 58 S58 := by
  refine cok58 fun args K0 hS => ?_
  obtain ⟨s_58, K, rfl, h, hK⟩ := hS
  refine ⟨by kernel_rfl, by simp, ?_⟩
  unfold W58 at h
  refine AW.sregL [(0, none)] (by kernel_rfl) ?_
  refine l_ds 2 (.one (.nils)) ?_
  refine l_nil ?_
  refine AW.seq ?_
  refine AW.sregL [(0, none), (1, none)] (by kernel_rfl) ?_
  refine l_ds 3 (.one (.d (.sl (List.map TLine.enc s_58)))) ?_
  refine l_isn (enc := TLine.enc) (some 4) (.t 3) s_58 ⟨by kernel_rfl, by kernel_rfl, by kernel_rfl⟩ (by kernel_rfl) (fun b17645 h4 => ?_)
  have h := h b17645 h4
  refine l_nil ?_
  refine AW.cond' (by kernel_rfl) h (fun h => ?_) (fun h => ?_)
  · refine AW.sregL [(0, none)] (by kernel_rfl) ?_
    refine l_ds 2 (.one (.nils)) ?_
    refine l_nil ?_
    refine AW.sim (F := [(299999, none)]) (T := [(2, .one (.view 299999 0 0 ((List.map TLine.enc []).length)))]) (O := [(299999, .pure true 41 7 (List.map TLine.enc []))]) ⟨by kernel_rfl, by kernel_rfl, by kernel_rfl, by kernel_rfl⟩ ?_
    refine AW.ret ?_
    refine q_ret ?_
    exact q_end [.one (.view 299999 0 0 ((List.map TLine.enc []).length))] [true] [.one (.own 41 7 (List.map TLine.enc []))] [] [] (by kernel_rfl) (ps_own (by kernel_rfl) (by kernel_rfl) rfl ps_nil) (by kernel_rfl) (by kernel_rfl) (by kernel_rfl) (by kernel_rfl) (Eq.mp (by kernel_rfl) (hK [] h)) (.inr rfl)
  · refine AW.skip ?_
    refine q_fall ?_
    refine AW.sregL [(0, none), (1, none), (2, none), (3, none)] (by kernel_rfl) ?_
    refine l_det (some 5) (.one (.view 5 1 0 0), [(5, 1, .row true 41 7 [])]) (by kernel_rfl) ?_
    refine l_ds 6 (.one (.d (.sl (List.map TLine.enc s_58)))) ?_
    obtain ⟨h6, h⟩ := h
    refine l_spec (some 7) (.app 41 7 80 [.str ⟨#[]⟩, .str ⟨#[]⟩, .str ⟨#[]⟩, .int .i64 0, .int .i64 0, .int .i64 0, .int .i64 0] (.t 5) (.t 6)) (.one (.view 5 2 0 ((List.map TLine.enc ([] ++ s_58)).length)), [(5, 2, .row true 41 7 (dmm (List.map TLine.enc ([] ++ s_58))))]) (by kernel_rfl) (detA_none (d_app_v (enc := TLine.enc) (xc := .d (.sl (List.map TLine.enc s_58))) [] s_58 (by kernel_rfl) (by kernel_rfl) (by kernel_rfl) (by kernel_rfl) (e_sl s_58 (fun _ => rfl)) h6 (by kernel_rfl))) ?_
    refine l_ds 2 (.one (.view 5 2 0 ((List.map TLine.enc ([] ++ s_58)).length))) ?_
    refine l_nil ?_
    refine AW.ret ?_
    exact q_end [.one (.view 5 2 0 ((List.map TLine.enc ([] ++ s_58)).length))] [true] [.one (.own 41 7 (List.map TLine.enc ([] ++ s_58)))] [] [] (by kernel_rfl) (ps_own (by kernel_rfl) (by kernel_rfl) rfl ps_nil) (by kernel_rfl) (by kernel_rfl) (by kernel_rfl) (by kernel_rfl) (Eq.mp (by kernel_rfl) (hK ([] ++ s_58) h)) (.inr rfl)
def r79_0 : List AR := [⟨some 2, .mov (.c (.bool false)), [], none⟩]
def r79_1 : List AR := [⟨some 3, .mov (.t 0), [], none⟩,
  ⟨some 4, .mov (.t 0), [], none⟩,
  ⟨some 5, .bin .neq (.t 3) (.t 4), [0, 1], none⟩,
  ⟨some 2, .mov (.t 5), [2, 0, 1, 2], none⟩]
def c79 : ACode := .seq (.reg r79_0 false) (.seq (.reg r79_1 false) (.ret))
theorem body79 : Try.f79.body.map (comp Try.prog 6) = some c79 := by kernel_rfl
theorem res79 : allSome (Try.f79.results.toList.map (compRes Try.prog)) = some [.s 2] := by kernel_rfl
theorem cok79 {S : FSpec} (h : ∀ args K, S args K → args.all argOk = true ∧ args.length ≤ 6 ∧ AW Try.prog 6 (some ownP) c79 (initS args) (retPost [.s 2] args K)) : COK Try.prog 79 S := of_body Try.func79 Try.ntmps79 body79 res79 h

/-- cmp.isNaN[int] -/
def W79 (x_0_79 : Int) (K : Bool → Prop) : Prop :=
  K (decide (¬ x_0_79 = x_0_79))

def S79 : FSpec := fun args K => ∃ (x_0_79 : Int), ∃ (Kr : Bool → Prop), args = [.one (.d (.int .i64 x_0_79))] ∧ W79 x_0_79 Kr ∧ ∀ r, Kr r → K (.one (.d (.bool r))) []

theorem en79 : enters Try.prog 79 = true := by unfold enters; rw [Try.func79]; rfl
theorem cl79 (x_0_79 : Int) {Kr : Bool → Prop} (h : W79 x_0_79 Kr) : S79 [.one (.d (.int .i64 x_0_79))] (fun rv rows => ∃ r, rv = (.one (.d (.bool r))) ∧ rows = [] ∧ Kr r) := ⟨x_0_79, Kr, rfl, h, fun r hr => ⟨r, rfl, rfl, hr⟩⟩

theorem ok79 : COK Try.prog 79 S79 := by
  refine cok79 fun args K0 hS => ?_
  obtain ⟨x_0_79, K, rfl, h, hK⟩ := hS
  refine ⟨by kernel_rfl, by simp, ?_⟩
  unfold W79 at h
  refine AW.sregL [(0, none)] (by kernel_rfl) ?_
  refine l_ds 2 (.one (.d (.bool false))) ?_
  refine l_nil ?_
  refine AW.sregL [(0, none), (1, none), (2, none), (3, none)] (by kernel_rfl) ?_
  refine l_ds 3 (.one (.d (.int .i64 x_0_79))) ?_
  refine l_ds 4 (.one (.d (.int .i64 x_0_79))) ?_
  refine l_ds 5 (.one (.d (.bool (decide (¬ x_0_79 = x_0_79))))) ?_
  refine l_ds 2 (.one (.d (.bool (decide (¬ x_0_79 = x_0_79))))) ?_
  refine l_nil ?_
  refine AW.ret ?_
  exact q_end [.one (.d (.bool (decide (¬ x_0_79 = x_0_79))))] [false] [.one (.d (.bool (decide (¬ x_0_79 = x_0_79))))] [] [] (by kernel_rfl) ⟨by kernel_rfl, by kernel_rfl⟩ (by kernel_rfl) (by kernel_rfl) (by kernel_rfl) (by kernel_rfl) (Eq.mp (by kernel_rfl) (hK (decide (¬ x_0_79 = x_0_79)) h)) (.inr rfl)
def r61_0 : List AR := [⟨some 4, .mov (.c (.int .i64 0)), [], none⟩]
def r61_1 : List AR := [⟨some 7, .mov (.t 0), [], none⟩,
  ⟨some 8, .call 79 [.t 7], [0], none⟩,
  ⟨some 5, .mov (.t 8), [1, 1, 0, 1], none⟩]
def r61_2 : List AR := [⟨some 9, .mov (.t 1), [], none⟩,
  ⟨some 10, .call 79 [.t 9], [0], none⟩,
  ⟨some 6, .mov (.t 10), [1, 1, 0, 1], none⟩]
def r61_3 : List AR := [⟨some 11, .mov (.t 5), [], none⟩]
def r61_4 : List AR := [⟨some 12, .mov (.t 6), [], none⟩]
def r61_5 : List AR := [⟨some 4, .mov (.c (.int .i64 0)), [], none⟩]
def r61_6 : List AR := [⟨some 4, .mov (.c (.int .i64 (-1))), [], none⟩]
def r61_7 : List AR := [⟨some 13, .mov (.t 6), [], none⟩]
def r61_8 : List AR := [⟨some 4, .mov (.c (.int .i64 1)), [], none⟩]
def r61_9 : List AR := [⟨some 14, .mov (.t 0), [], none⟩,
  ⟨some 15, .mov (.t 1), [], none⟩,
  ⟨some 16, .bin .lss (.t 14) (.t 15), [0, 1], none⟩]
def r61_10 : List AR := [⟨some 4, .mov (.c (.int .i64 (-1))), [], none⟩]
def r61_11 : List AR := [⟨some 17, .mov (.t 0), [], none⟩,
  ⟨some 18, .mov (.t 1), [], none⟩,
  ⟨some 19, .bin .gtr (.t 17) (.t 18), [0, 1], none⟩]
def r61_12 : List AR := [⟨some 4, .mov (.c (.int .i64 1)), [], none⟩]
def r61_13 : List AR := [⟨some 4, .mov (.c (.int .i64 0)), [], none⟩]
def c61 : ACode := .seq (.reg r61_0 false) (.seq (.reg r61_1 false) (.seq (.reg r61_2 false) (.seq (.seq (.reg r61_3 false) (.cond (.t 11) (.seq (.seq (.reg r61_4 false) (.cond (.t 12) (.seq (.reg r61_5 false) (.ret)) (.skip))) (.seq (.reg r61_6 false) (.ret))) (.skip))) (.seq (.seq (.reg r61_7 false) (.cond (.t 13) (.seq (.reg r61_8 false) (.ret)) (.skip))) (.seq (.seq (.reg r61_9 false) (.cond (.t 16) (.seq (.reg r61_10 false) (.ret)) (.skip))) (.seq (.seq (.reg r61_11 false) (.cond (.t 19) (.seq (.reg r61_12 false) (.ret)) (.skip))) (.seq (.reg r61_13 false) (.ret))))))))
theorem body61 : Try.f61.body.map (comp Try.prog 20) = some c61 := by kernel_rfl
theorem res61 : allSome (Try.f61.results.toList.map (compRes Try.prog)) = some [.s 4] := by kernel_rfl
theorem cok61 {S : FSpec} (h : ∀ args K, S args K → args.all argOk = true ∧ args.length ≤ 20 ∧ AW Try.prog 20 (some ownP) c61 (initS args) (retPost [.s 4] args K)) : COK Try.prog 61 S := of_body Try.func61 Try.ntmps61 body61 res61 h

/-- cmp.Compare[int] -/
def W61 (x_0_61 : Int) (y_61 : Int) (K : Int → Prop) : Prop :=
  W79 x_0_61 fun r17653 => W79 y_61 fun r17655 => Cond r17653 (Cond r17655 (K 0) (K (-1))) (Cond r17655 (K 1) (Cond (decide (x_0_61 < y_61)) (K (-1)) (Cond (decide (x_0_61 > y_61)) (K 1) (K 0))))

def S61 : FSpec := fun args K => ∃ (x_0_61 : Int), ∃ (y_61 : Int), ∃ (Kr : Int → Prop), args = [.one (.d (.int .i64 x_0_61)), .one (.d (.int .i64 y_61))] ∧ W61 x_0_61 y_61 Kr ∧ ∀ r, Kr r → K (.one (.d (.int .i64 r))) []

theorem en61 : enters Try.prog 61 = true := by unfold enters; rw [Try.func61]; rfl
theorem cl61 (x_0_61 : Int) (y_61 : Int) {Kr : Int → Prop} (h : W61 x_0_61 y_61 Kr) : S61 [.one (.d (.int .i64 x_0_61)), .one (.d (.int .i64 y_61))] (fun rv rows => ∃ r, rv = (.one (.d (.int .i64 r))) ∧ rows = [] ∧ Kr r) := ⟨x_0_61, y_61, Kr, rfl, h, fun r hr => ⟨r, rfl, rfl, hr⟩⟩

theorem ok61 : COK Try.prog 61 S61 := by
  refine cok61 fun args K0 hS => ?_
  obtain ⟨x_0_61, y_61, K, rfl, h, hK⟩ := hS
  refine ⟨by kernel_rfl, by simp, ?_⟩
  unfold W61 at h
  refine AW.sregL [(0, none)] (by kernel_rfl) ?_
  refine l_ds 4 (.one (.d (.int .i64 0))) ?_
  refine l_nil ?_
  refine AW.sregL [(0, none), (1, none), (2, none)] (by kernel_rfl) ?_
  refine l_ds 7 (.one (.d (.int .i64 x_0_61))) ?_
  refine l_call ok79 en79 (some 8) [.one (.d (.int .i64 x_0_61))] [false] [.one (.d (.int .i64 x_0_61))] [] (by kernel_rfl) ⟨by kernel_rfl, by kernel_rfl⟩ (by kernel_rfl) (by kernel_rfl) (by kernel_rfl) (cl79 x_0_61 h) ?_
  rintro hR _ _ ⟨r17653, rfl, rfl, h⟩
  refine ⟨false, (.one (.d (.bool r17653)), []), (fun hz => (by cases hz)), (ret_R hR (by kernel_rfl)), ?_⟩
  refine l_ds 5 (.one (.d (.bool r17653))) ?_
  refine l_nil ?_
  refine AW.sregL [(0, none), (1, none), (2, none)] (by kernel_rfl) ?_
  refine l_ds 9 (.one (.d (.int .i64 y_61))) ?_
  refine l_call ok79 en79 (some 10) [.one (.d (.int .i64 y_61))] [false] [.one (.d (.int .i64 y_61))] [] (by kernel_rfl) ⟨by kernel_rfl, by kernel_rfl⟩ (by kernel_rfl) (by kernel_rfl) (by kernel_rfl) (cl79 y_61 h) ?_
  rintro hR _ _ ⟨r17655, rfl, rfl, h⟩
  refine ⟨false, (.one (.d (.bool r17655)), []), (fun hz => (by cases hz)), (ret_R hR (by kernel_rfl)), ?_⟩
  refine l_ds 6 (.one (.d (.bool r17655))) ?_
  refine l_nil ?_
  refine AW.seq ?_
  refine AW.sregL [(0, none)] (by kernel_rfl) ?_
  refine l_ds 11 (.one (.d (.bool r17653))) ?_
  refine l_nil ?_
  refine AW.cond' (by kernel_rfl) h (fun h => ?_) (fun h => ?_)
  · refine AW.seq ?_
    refine AW.sregL [(0, none)] (by kernel_rfl) ?_
    refine l_ds 12 (.one (.d (.bool r17655))) ?_
    refine l_nil ?_
    refine AW.cond' (by kernel_rfl) h (fun h => ?_) (fun h => ?_)
    · refine AW.sregL [(0, none)] (by kernel_rfl) ?_
      refine l_ds 4 (.one (.d (.int .i64 0))) ?_
      refine l_nil ?_
      refine AW.ret ?_
      refine q_ret ?_
      refine q_ret ?_
      exact q_end [.one (.d (.int .i64 0))] [false] [.one (.d (.int .i64 0))] [] [] (by kernel_rfl) ⟨by kernel_rfl, by kernel_rfl⟩ (by kernel_rfl) (by kernel_rfl) (by kernel_rfl) (by kernel_rfl) (Eq.mp (by kernel_rfl) (hK 0 h)) (.inr rfl)
    · refine AW.skip ?_
      refine q_fall ?_
      refine AW.sregL [(0, none)] (by kernel_rfl) ?_
      refine l_ds 4 (.one (.d (.int .i64 (-1)))) ?_
      refine l_nil ?_
      refine AW.ret ?_
      refine q_ret ?_
      exact q_end [.one (.d (.int .i64 (-1)))] [false] [.one (.d (.int .i64 (-1)))] [] [] (by kernel_rfl) ⟨by kernel_rfl, by kernel_rfl⟩ (by kernel_rfl) (by kernel_rfl) (by kernel_rfl) (by kernel_rfl) (Eq.mp (by kernel_rfl) (hK (-1) h)) (.inr rfl)
  · refine AW.skip ?_
    refine q_fall ?_
    refine AW.seq ?_
    refine AW.sregL [(0, none)] (by kernel_rfl) ?_
    refine l_ds 13 (.one (.d (.bool r17655))) ?_
    refine l_nil ?_
    refine AW.cond' (by kernel_rfl) h (fun h => ?_) (fun h => ?_)
    · refine AW.sregL [(0, none)] (by kernel_rfl) ?_
      refine l_ds 4 (.one (.d (.int .i64 1))) ?_
      refine l_nil ?_
      refine AW.ret ?_
      refine q_ret ?_
      exact q_end [.one (.d (.int .i64 1))] [false] [.one (.d (.int .i64 1))] [] [] (by kernel_rfl) ⟨by kernel_rfl, by kernel_rfl⟩ (by kernel_rfl) (by kernel_rfl) (by kernel_rfl) (by kernel_rfl) (Eq.mp (by kernel_rfl) (hK 1 h)) (.inr rfl)
    · refine AW.skip ?_
      refine q_fall ?_
      refine AW.seq ?_
      refine AW.sregL [(0, none), (1, none), (2, none)] (by kernel_rfl) ?_
      refine l_ds 14 (.one (.d (.int .i64 x_0_61))) ?_
      refine l_ds 15 (.one (.d (.int .i64 y_61))) ?_
      refine l_ds 16 (.one (.d (.bool (decide (x_0_61 < y_61))))) ?_
      refine l_nil ?_
      refine AW.cond' (by kernel_rfl) h (fun h => ?_) (fun h => ?_)
      · refine AW.sregL [(0, none)] (by kernel_rfl) ?_
        refine l_ds 4 (.one (.d (.int .i64 (-1)))) ?_
        refine l_nil ?_
        refine AW.ret ?_
        refine q_ret ?_
        exact q_end [.one (.d (.int .i64 (-1)))] [false] [.one (.d (.int .i64 (-1)))] [] [] (by kernel_rfl) ⟨by kernel_rfl, by kernel_rfl⟩ (by kernel_rfl) (by kernel_rfl) (by kernel_rfl) (by kernel_rfl) (Eq.mp (by kernel_rfl) (hK (-1) h)) (.inr rfl)
      · refine AW.skip ?_
        refine q_fall ?_
        refine AW.seq ?_
        refine AW.sregL [(0, none), (1, none), (2, none)] (by kernel_rfl) ?_
        refine l_ds 17 (.one (.d (.int .i64 x_0_61))) ?_
        refine l_ds 18 (.one (.d (.int .i64 y_61))) ?_
        refine l_ds 19 (.one (.d (.bool (decide (x_0_61 > y_61))))) ?_
        refine l_nil ?_
        refine AW.cond' (by kernel_rfl) h (fun h => ?_) (fun h => ?_)
        · refine AW.sregL [(0, none)] (by kernel_rfl) ?_
          refine l_ds 4 (.one (.d (.int .i64 1))) ?_
          refine l_nil ?_
          refine AW.ret ?_
          refine q_ret ?_
          exact q_end [.one (.d (.int .i64 1))] [false] [.one (.d (.int .i64 1))] [] [] (by kernel_rfl) ⟨by kernel_rfl, by kernel_rfl⟩ (by kernel_rfl) (by kernel_rfl) (by kernel_rfl) (by kernel_rfl) (Eq.mp (by kernel_rfl) (hK 1 h)) (.inr rfl)
        · refine AW.skip ?_
          refine q_fall ?_
          refine AW.sregL [(0, none)] (by kernel_rfl) ?_
          refine l_ds 4 (.one (.d (.int .i64 0))) ?_
          refine l_nil ?_
          refine AW.ret ?_
          exact q_end [.one (.d (.int .i64 0))] [false] [.one (.d (.int .i64 0))] [] [] (by kernel_rfl) ⟨by kernel_rfl, by kernel_rfl⟩ (by kernel_rfl) (by kernel_rfl) (by kernel_rfl) (by kernel_rfl) (Eq.mp (by kernel_rfl) (hK 0 h)) (.inr rfl)
def r60_0 : List AR := [⟨some 2, .box 41 true 7 (.t 0), [], none⟩,
  ⟨some 3, .box 41 true 7 (.t 1), [], none⟩,
  ⟨some 4, .mov (.c (.int .i64 0)), [], none⟩]
def r60_1 : List AR := [⟨some 5, .fad (.t 3) 3, [], none⟩,
  ⟨some 6, .fad (.t 5) 2, [0], none⟩,
  ⟨some 7, .ld false 1 (.t 6), [1], none⟩,
  ⟨some 8, .fad (.t 2) 3, [], none⟩,
  ⟨some 9, .fad (.t 8) 2, [3], none⟩,
  ⟨some 10, .ld false 1 (.t 9), [4], none⟩,
  ⟨some 11, .call 61 [.t 7, .t 10], [2, 5], none⟩,
  ⟨some 4, .mov (.t 11), [6, 6, 0, 1, 2, 3, 4, 5, 6], none⟩]
def c60 : ACode := .seq (.reg r60_0 false) (.seq (.reg r60_1 false) (.ret))
theorem body60 : Try.f60.body.map (comp Try.prog 12) = some c60 := by kernel_rfl
theorem res60 : allSome (Try.f60.results.toList.map (compRes Try.prog)) = some [.s 4] := by kernel_rfl
theorem cok60 {S : FSpec} (h : ∀ args K, S args K → args.all argOk = true ∧ args.length ≤ 12 ∧ AW Try.prog 12 (some ownP) c60 (initS args) (retPost [.s 4] args K)) : COK Try.prog 60 S := of_body Try.func60 Try.ntmps60 body60 res60 h

/-- sleuth/estimate.Top$1 -/
def W60 (a_60 : TLine) (b_60 : TLine) (K : Int → Prop) : Prop :=
  W61 b_60.total.duration a_60.total.duration fun r17657 => K r17657

def S60 : FSpec := fun args K => ∃ (a_60 : TLine), ∃ (b_60 : TLine), ∃ (Kr : Int → Prop), args = [.agg (List.map RC.d (TLine.enc a_60)), .agg (List.map RC.d (TLine.enc b_60))] ∧ W60 a_60 b_60 Kr ∧ ∀ r, Kr r → K (.one (.d (.int .i64 r))) []

theorem en60 : enters Try.prog 60 = true := by unfold enters; rw [Try.func60]; rfl
theorem cl60 (a_60 : TLine) (b_60 : TLine) {Kr : Int → Prop} (h : W60 a_60 b_60 Kr) : S60 [.agg (List.map RC.d (TLine.enc a_60)), .agg (List.map RC.d (TLine.enc b_60))] (fun rv rows => ∃ r, rv = (.one (.d (.int .i64 r))) ∧ rows = [] ∧ Kr r) := ⟨a_60, b_60, Kr, rfl, h, fun r hr => ⟨r, rfl, rfl, hr⟩⟩

theorem ok60 : COK Try.prog 60 S60 := by
  refine cok60 fun args K0 hS => ?_
  obtain ⟨a_60, b_60, K, rfl, h, hK⟩ := hS
  refine ⟨by kernel_rfl, by simp, ?_⟩
  unfold W60 at h
  refine AW.sregL [(0, none), (1, none), (2, none)] (by kernel_rfl) ?_
  refine l_det (some 2) (.one (.ref 2 1 0 0), [(2, 1, .row true 41 7 [[.d (.str a_60.group.service), .d (.str a_60.group.version), .d (.str a_60.group.operation), .d (.int .i64 a_60.total.spans), .d (.int .i64 a_60.total.errors), .d (.int .i64 a_60.total.duration), .d (.int .i64 a_60.total.traces)]])]) (by kernel_rfl) ?_
  refine l_det (some 3) (.one (.ref 3 1 0 0), [(3, 1, .row true 41 7 [[.d (.str b_60.group.service), .d (.str b_60.group.version), .d (.str b_60.group.operation), .d (.int .i64 b_60.total.spans), .d (.int .i64 b_60.total.errors), .d (.int .i64 b_60.total.duration), .d (.int .i64 b_60.total.traces)]])]) (by kernel_rfl) ?_
  refine l_ds 4 (.one (.d (.int .i64 0))) ?_
  refine l_nil ?_
  refine AW.sregL [(0, none), (1, none), (2, none), (3, none), (4, none), (5, none), (6, none), (7, none)] (by kernel_rfl) ?_
  refine l_ds 5 (.one (.ref 3 1 0 3)) ?_
  refine l_ds 6 (.one (.ref 3 1 0 5)) ?_
  refine l_ds 7 (.one (.d (.int .i64 b_60.total.duration))) ?_
  refine l_ds 8 (.one (.ref 2 1 0 3)) ?_
  refine l_ds 9 (.one (.ref 2 1 0 5)) ?_
  refine l_ds 10 (.one (.d (.int .i64 a_60.total.duration))) ?_
  refine l_call ok61 en61 (some 11) [.one (.d (.int .i64 b_60.total.duration)), .one (.d (.int .i64 a_60.total.duration))] [false, false] [.one (.d (.int .i64 b_60.total.duration)), .one (.d (.int .i64 a_60.total.duration))] [] (by kernel_rfl) ⟨by kernel_rfl, by kernel_rfl⟩ (by kernel_rfl) (by kernel_rfl) (by kernel_rfl) (cl61 b_60.total.duration a_60.total.duration h) ?_
  rintro hR _ _ ⟨r17657, rfl, rfl, h⟩
  refine ⟨false, (.one (.d (.int .i64 r17657)), []), (fun hz => (by cases hz)), (ret_R hR (by kernel_rfl)), ?_⟩
  refine l_ds 4 (.one (.d (.int .i64 r17657))) ?_
  refine l_nil ?_
  refine AW.ret ?_
  exact q_end [.one (.d (.int .i64 r17657))] [false] [.one (.d (.int .i64 r17657))] [] [] (by kernel_rfl) ⟨by kernel_rfl, by kernel_rfl⟩ (by kernel_rfl) (by kernel_rfl) (by kernel_rfl) (by kernel_rfl) (Eq.mp (by kernel_rfl) (hK r17657 h)) (.inr rfl)

def J88c60_3 (v18090 : List TLine) (v18091 : Int) (N18118 : ((List TLine) × Int) → Prop) (N17982 : ((List TLine) × Int) → Prop) (v17819 : Int) (v18135 : Bool) : Prop :=
  Cond v18135 (Idx v18090 (w64 (v18091 - 1)) fun x18139 => Idx v18090 v18091 fun x18140 => Idx (List.set v18090 v18091.toNat x18139) (w64 (v18091 - 1)) fun x18141 => N18118 ((List.set (List.set v18090 v18091.toNat x18139) ((w64 (v18091 - 1)).toNat) x18140), (w64 (v18091 - 1)))) (N17982 (v18090, (w64 (v17819 + 1))))

def L88c60_2 (a_88c60 : Int) (N17982 : ((List TLine) × Int) → Prop) (v17819 : Int) (v18090 : List TLine) (v18091 : Int) (N18118 : ((List TLine) × Int) → Prop) : Prop :=
  Cond (decide (v18091 > a_88c60)) (Idx v18090 v18091 fun x18142 => Idx v18090 (w64 (v18091 - 1)) fun x18143 => W60 x18142 x18143 fun r18144 => J88c60_3 v18090 v18091 N18118 N17982 v17819 (decide (r18144 < 0))) (J88c60_3 v18090 v18091 N18118 N17982 v17819 false)

def L88c60_1 (b_88c60 : Int) (a_88c60 : Int) (data_88c60 : List TLine) (K : (List TLine) → Prop) (v17818 : List TLine) (v17819 : Int) (N17982 : ((List TLine) × Int) → Prop) : Prop :=
  Cond (decide (v17819 < b_88c60)) (LoopW (fun (s : ((List TLine) × Int)) N18118 => L88c60_2 a_88c60 N17982 v17819 s.1 s.2 N18118) (v17818, v17819)) (v17818.length = data_88c60.length ∧ K v17818)

/-- slices.insertionSortCmpFunc[sleuth/estimate.Line] -/
def W88c60 (data_88c60 : List TLine) (a_88c60 : Int) (b_88c60 : Int) (K : (List TLine) → Prop) : Prop :=
  LoopW (fun (s : ((List TLine) × Int)) N17982 => L88c60_1 b_88c60 a_88c60 data_88c60 K s.1 s.2 N17982) (data_88c60, (w64 (a_88c60 + 1)))

def S88c60 : FSpec := fun args K => ∃ (data_88c60 : List TLine), ∃ (a_88c60 : Int), ∃ (b_88c60 : Int), ∃ (Kr : (List TLine) → Prop), args = [.one (.own 41 7 (List.map TLine.enc data_88c60)), .one (.d (.int .i64 a_88c60)), .one (.d (.int .i64 b_88c60)), .one (.d (.fn 60 []))] ∧ W88c60 data_88c60 a_88c60 b_88c60 Kr ∧ ∀ r, r.length = data_88c60.length → Kr r → K (.tup []) [List.map TLine.enc r]

theorem cl88c60 (data_88c60 : List TLine) (a_88c60 : Int) (b_88c60 : Int) {Kr : (List TLine) → Prop} (h : W88c60 data_88c60 a_88c60 b_88c60 Kr) : S88c60 [.one (.own 41 7 (List.map TLine.enc data_88c60)), .one (.d (.int .i64 a_88c60)), .one (.d (.int .i64 b_88c60)), .one (.d (.fn 60 []))] (fun rv rows => ∃ r, rv = (.tup []) ∧ rows = [List.map TLine.enc r] ∧ r.length = data_88c60.length ∧ Kr r) := ⟨data_88c60, a_88c60, b_88c60, Kr, rfl, h, fun r hl hr => ⟨r, rfl, rfl, hl, hr⟩⟩

theorem ok88c60 : COK Try.prog 88 S88c60 := by
  refine cok88 fun args K0 hS => ?_
  obtain ⟨data_88c60, a_88c60, b_88c60, K, rfl, h, hK⟩ := hS
  refine ⟨by kernel_rfl, by simp, ?_⟩
  unfold W88c60 at h
  refine AW.sregL [(0, none), (1, none), (2, none)] (by kernel_rfl) ?_
  refine l_ds 10 (.one (.d (.int .i64 a_88c60))) ?_
  refine l_ds 11 (.one (.d (.int .i64 (w64 (a_88c60 + 1))))) ?_
  refine l_ds 8 (.one (.d (.int .i64 (w64 (a_88c60 + 1))))) ?_
  refine l_nil ?_
  refine AW.blk ?_
  refine AW.loopL (S := ((List TLine) × Int)) (fun s => (fun (v17818 : List TLine) (v17819 : Int) => [(0, .one (.view 900000 0 0 ((List.map TLine.enc v17818).length))), (1, .one (.d (.int .i64 a_88c60))), (2, .one (.d (.int .i64 b_88c60))), (3, .one (.d (.fn 60 []))), (8, .one (.d (.int .i64 v17819)))]) s.1 s.2) (fun s => (fun (v17818 : List TLine) (v17819 : Int) => [(900000, .pure true 41 7 (List.map TLine.enc v17818))]) s.1 s.2) (fun (s : ((List TLine) × Int)) N17982 => L88c60_1 b_88c60 a_88c60 data_88c60 K s.1 s.2 N17982) (N := fun s => LoopW (fun (s : ((List TLine) × Int)) N17982 => L88c60_1 b_88c60 a_88c60 data_88c60 K s.1 s.2 N17982) s) (Lab.m (data_88c60, (w64 (a_88c60 + 1))) [(900000, some 900000)] h) (fun _ h => h) ?_
  rintro ⟨v17818, v17819⟩ N17982 h
  have h : L88c60_1 b_88c60 a_88c60 data_88c60 K v17818 v17819 N17982 := h
  unfold L88c60_1 at h
  refine AW.seq ?_
  refine AW.sregL [(0, none), (1, none), (2, none)] (by kernel_rfl) ?_
  refine l_ds 12 (.one (.d (.int .i64 v17819))) ?_
  refine l_ds 13 (.one (.d (.int .i64 b_88c60))) ?_
  refine l_ds 14 (.one (.d (.bool (decide (v17819 < b_88c60))))) ?_
  refine l_nil ?_
  refine AW.cond' (by kernel_rfl) h (fun h => ?_) (fun h => ?_)
  · refine AW.skip ?_
    refine q_fall ?_
    refine AW.seq ?_
    refine AW.blk ?_
    refine AW.sregL [(0, none), (1, none)] (by kernel_rfl) ?_
    refine l_ds 17 (.one (.d (.int .i64 v17819))) ?_
    refine l_ds 9 (.one (.d (.int .i64 v17819))) ?_
    refine l_nil ?_
    refine AW.blk ?_
    refine AW.loopL (S := ((List TLine) × Int)) (fun s => (fun (v18090 : List TLine) (v18091 : Int) => [(0, .one (.view 900000 0 0 ((List.map TLine.enc v18090).length))), (1, .one (.d (.int .i64 a_88c60))), (2, .one (.d (.int .i64 b_88c60))), (3, .one (.d (.fn 60 []))), (8, .one (.d (.int .i64 v17819))), (9, .one (.d (.int .i64 v18091)))]) s.1 s.2) (fun s => (fun (v18090 : List TLine) (v18091 : Int) => [(900000, .pure true 41 7 (List.map TLine.enc v18090))]) s.1 s.2) (fun (s : ((List TLine) × Int)) N18118 => L88c60_2 a_88c60 N17982 v17819 s.1 s.2 N18118) (N := fun s => LoopW (fun (s : ((List TLine) × Int)) N18118 => L88c60_2 a_88c60 N17982 v17819 s.1 s.2 N18118) s) (Lab.m (v17818, v17819) [(900000, some 900000)] h) (fun _ h => h) ?_
    rintro ⟨v18090, v18091⟩ N18118 h
    have h : L88c60_2 a_88c60 N17982 v17819 v18090 v18091 N18118 := h
    unfold L88c60_2 at h
    refine AW.seq ?_
    refine AW.seqL (S := Bool) (fun s => (fun (v18135 : Bool) => [(0, .one (.view 900000 0 0 ((List.map TLine.enc v18090).length))), (1, .one (.d (.int .i64 a_88c60))), (2, .one (.d (.int .i64 b_88c60))), (3, .one (.d (.fn 60 []))), (8, .one (.d (.int .i64 v17819))), (9, .one (.d (.int .i64 v18091))), (34, .one (.d (.bool v18135)))]) s) (fun s => (fun (v18135 : Bool) => [(900000, .pure true 41 7 (List.map TLine.enc v18090))]) s) (fun s : Bool => J88c60_3 v18090 v18091 N18118 N17982 v17819 s) ?_ ?_
    · refine AW.regdL follows_mixed [[], [], [0, 1], [0, 1, 2], [0, 1, 2, 3], [0, 1, 2, 3], [0, 1, 2, 3], [0, 1, 2, 3, 5, 6], [0, 1, 2, 3, 5, 6, 7], [0, 1, 2, 3], [0, 1, 2, 3], [0, 1, 2, 3, 10], [0, 1, 2, 3, 9, 10, 11], [0, 1, 2, 3, 9, 10, 11, 12], [0, 1, 2, 3, 4, 5, 6, 7, 8, 9, 10, 11, 12, 13], [0, 1, 2, 3, 4, 5, 6, 7, 8, 9, 10, 11, 12, 13, 14], [0, 1, 2, 3, 4, 5, 6, 7, 8, 9, 10, 11, 12, 13, 14, 15]] [(0, none), (1, none), (2, none), (3, none), (4, none), (5, none), (6, none), (7, none), (8, none), (9, none), (10, none), (11, none), (12, none), (13, none), (14, none), (15, none), (16, none)] (by kernel_rfl) ?_
      refine l_ds 18 (.one (.d (.int .i64 v18091))) ?_
      refine l_ds 19 (.one (.d (.int .i64 a_88c60))) ?_
      refine l_ds 20 (.one (.d (.bool (decide (v18091 > a_88c60))))) ?_
      refine l_ds 21 (.one (.d (.bool (decide (v18091 > a_88c60))))) ?_
      refine l_split (s := 21) (by kernel_rfl) h (fun h => ?_) (fun h => ?_)
      · refine l_ds 22 (.one (.d (.fn 60 []))) ?_
        refine l_ds 23 (.one (.view 900000 0 0 ((List.map TLine.enc v18090).length))) ?_
        refine l_ds 24 (.one (.d (.int .i64 v18091))) ?_
        obtain ⟨h824, x18142, h825, h⟩ := h
        refine l_spec (some 25) (.iad 7 (.t 23) (.t 24)) (.one (.ref 900000 0 v18091.toNat 0), []) (by kernel_rfl) (detA_none (d_iad_v (enc := TLine.enc) (k := .i64) (E := 41) (l := true) (ys := dmm (List.map TLine.enc v18090)) v18090 x18142 (by kernel_rfl) (by kernel_rfl) (by kernel_rfl) (by kernel_rfl) h824 h825)) ?_
        refine l_spec (some 26) (.ld true 7 (.t 25)) (.agg [.d (.str x18142.group.service), .d (.str x18142.group.version), .d (.str x18142.group.operation), .d (.int .i64 x18142.total.spans), .d (.int .i64 x18142.total.errors), .d (.int .i64 x18142.total.duration), .d (.int .i64 x18142.total.traces)], []) (by kernel_rfl) (detA_none (d_ld_row (enc := TLine.enc) (o := 900000) (g := 0) (i := v18091.toNat) (off := 0) (E := 41) (sz := 7) (l := true) v18090 x18142 (by kernel_rfl) (by kernel_rfl) (by kernel_rfl) h825 (by kernel_rfl))) ?_
        refine l_ds 27 (.one (.view 900000 0 0 ((List.map TLine.enc v18090).length))) ?_
        refine l_ds 28 (.one (.d (.int .i64 v18091))) ?_
        refine l_ds 29 (.one (.d (.int .i64 (w64 (v18091 - 1))))) ?_
        obtain ⟨h826, x18143, h827, h⟩ := h
        refine l_spec (some 30) (.iad 7 (.t 27) (.t 29)) (.one (.ref 900000 0 ((w64 (v18091 - 1)).toNat) 0), []) (by kernel_rfl) (detA_none (d_iad_v (enc := TLine.enc) (k := .i64) (E := 41) (l := true) (ys := dmm (List.map TLine.enc v18090)) v18090 x18143 (by kernel_rfl) (by kernel_rfl) (by kernel_rfl) (by kernel_rfl) h826 h827)) ?_
        refine l_spec (some 31) (.ld true 7 (.t 30)) (.agg [.d (.str x18143.group.service), .d (.str x18143.group.version), .d (.str x18143.group.operation), .d (.int .i64 x18143.total.spans), .d (.int .i64 x18143.total.errors), .d (.int .i64 x18143.total.duration), .d (.int .i64 x18143.total.traces)], []) (by kernel_rfl) (detA_none (d_ld_row (enc := TLine.enc) (o := 900000) (g := 0) (i := ((w64 (v18091 - 1)).toNat)) (off := 0) (E := 41) (sz := 7) (l := true) v18090 x18143 (by kernel_rfl) (by kernel_rfl) (by kernel_rfl) h827 (by kernel_rfl))) ?_
        refine l_call ok60 en60 (some 32) [.agg [.d (.str x18142.group.service), .d (.str x18142.group.version), .d (.str x18142.group.operation), .d (.int .i64 x18142.total.spans), .d (.int .i64 x18142.total.errors), .d (.int .i64 x18142.total.duration), .d (.int .i64 x18142.total.traces)], .agg [.d (.str x18143.group.service), .d (.str x18143.group.version), .d (.str x18143.group.operation), .d (.int .i64 x18143.total.spans), .d (.int .i64 x18143.total.errors), .d (.int .i64 x18143.total.duration), .d (.int .i64 x18143.total.traces)]] [false, false] [.agg (List.map RC.d [.str x18142.group.service, .str x18142.group.version, .str x18142.group.operation, .int .i64 x18142.total.spans, .int .i64 x18142.total.errors, .int .i64 x18142.total.duration, .int .i64 x18142.total.traces]), .agg (List.map RC.d [.str x18143.group.service, .str x18143.group.version, .str x18143.group.operation, .int .i64 x18143.total.spans, .int .i64 x18143.total.errors, .int .i64 x18143.total.duration, .int .i64 x18143.total.traces])] [] (by kernel_rfl) ⟨by kernel_rfl, by kernel_rfl⟩ (by kernel_rfl) (by kernel_rfl) (by kernel_rfl) (cl60 x18142 x18143 h) ?_
        rintro hR _ _ ⟨r18144, rfl, rfl, h⟩
        refine ⟨false, (.one (.d (.int .i64 r18144)), []), (fun hz => (by cases hz)), (ret_R hR (by kernel_rfl)), ?_⟩
        refine l_ds 33 (.one (.d (.bool (decide (r18144 < 0))))) ?_
        refine l_ds 34 (.one (.d (.bool (decide (r18144 < 0))))) ?_
        refine l_nil ?_
        refine q_fall ?_
        exact Lab.m (decide (r18144 < 0)) [(900000, some 900000)] h
      · refine l_ds 22 (.tup []) ?_
        refine l_ds 23 (.tup []) ?_
        refine l_ds 24 (.tup []) ?_
        refine l_ds 25 (.tup []) ?_
        refine l_ds 26 (.tup []) ?_
        refine l_ds 27 (.tup []) ?_
        refine l_ds 28 (.tup []) ?_
        refine l_ds 29 (.tup []) ?_
        refine l_ds 30 (.tup []) ?_
        refine l_ds 31 (.tup []) ?_
        refine l_skip (some 32) (by kernel_rfl) (by kernel_rfl) (by kernel_rfl) ?_
        refine l_ds 33 (.tup []) ?_
        refine l_ds 34 (.one (.d (.bool false))) ?_
        refine l_nil ?_
        refine q_fall ?_
        exact Lab.m false [(900000, some 900000)] h
    · rintro v18135 h
      have h : J88c60_3 v18090 v18091 N18118 N17982 v17819 v18135 := h
      unfold J88c60_3 at h
      refine AW.cond' (by kernel_rfl) h (fun h => ?_) (fun h => ?_)
      · refine AW.skip ?_
        refine q_fall ?_
        refine AW.seq ?_
        refine AW.blk ?_
        refine AW.regdL follows_mixed [[], [], [], [], [3], [], [], [6], [5, 6, 7], [5, 6, 7, 8], [], [], [10, 11], [10, 11, 12], [0, 1, 5, 6, 7, 8, 9, 10, 11, 12, 13], [0, 1, 5, 6, 7, 8, 9, 10, 11, 12, 13, 14], [0, 1, 2, 3, 4, 5, 6, 7, 8, 9, 10, 11, 12, 13, 14, 15], [0, 1, 2, 3, 4, 5, 6, 7, 8, 9, 10, 11, 12, 13, 14, 15, 16]] [(0, none), (1, none), (2, none), (3, none), (4, none), (5, none), (6, none), (7, none), (8, none), (9, none), (10, none), (11, none), (12, none), (13, none), (14, none), (15, none), (16, none), (17, none)] (by kernel_rfl) ?_
        refine l_ds 37 (.one (.view 900000 0 0 ((List.map TLine.enc v18090).length))) ?_
        refine l_ds 38 (.one (.d (.int .i64 v18091))) ?_
        refine l_ds 39 (.one (.view 900000 0 0 ((List.map TLine.enc v18090).length))) ?_
        refine l_ds 40 (.one (.d (.int .i64 v18091))) ?_
        refine l_ds 41 (.one (.d (.int .i64 (w64 (v18091 - 1))))) ?_
        refine l_ds 42 (.one (.view 900000 0 0 ((List.map TLine.enc v18090).length))) ?_
        refine l_ds 43 (.one (.d (.int .i64 v18091))) ?_
        refine l_ds 44 (.one (.d (.int .i64 (w64 (v18091 - 1))))) ?_
        obtain ⟨h816, x18139, h817, h⟩ := h
        refine l_spec (some 45) (.iad 7 (.t 42) (.t 44)) (.one (.ref 900000 0 ((w64 (v18091 - 1)).toNat) 0), []) (by kernel_rfl) (detA_none (d_iad_v (enc := TLine.enc) (k := .i64) (E := 41) (l := true) (ys := dmm (List.map TLine.enc v18090)) v18090 x18139 (by kernel_rfl) (by kernel_rfl) (by kernel_rfl) (by kernel_rfl) h816 h817)) ?_
        refine l_spec (some 46) (.ld true 7 (.t 45)) (.agg [.d (.str x18139.group.service), .d (.str x18139.group.version), .d (.str x18139.group.operation), .d (.int .i64 x18139.total.spans), .d (.int .i64 x18139.total.errors), .d (.int .i64 x18139.total.duration), .d (.int .i64 x18139.total.traces)], []) (by kernel_rfl) (detA_none (d_ld_row (enc := TLine.enc) (o := 900000) (g := 0) (i := ((w64 (v18091 - 1)).toNat)) (off := 0) (E := 41) (sz := 7) (l := true) v18090 x18139 (by kernel_rfl) (by kernel_rfl) (by kernel_rfl) h817 (by kernel_rfl))) ?_
        refine l_ds 47 (.one (.view 900000 0 0 ((List.map TLine.enc v18090).length))) ?_
        refine l_ds 48 (.one (.d (.int .i64 v18091))) ?_
        obtain ⟨h818, x18140, h819, h⟩ := h
        refine l_spec (some 49) (.iad 7 (.t 47) (.t 48)) (.one (.ref 900000 0 v18091.toNat 0), []) (by kernel_rfl) (detA_none (d_iad_v (enc := TLine.enc) (k := .i64) (E := 41) (l := true) (ys := dmm (List.map TLine.enc v18090)) v18090 x18140 (by kernel_rfl) (by kernel_rfl) (by kernel_rfl) (by kernel_rfl) h818 h819)) ?_
        refine l_spec (some 50) (.ld true 7 (.t 49)) (.agg [.d (.str x18140.group.service), .d (.str x18140.group.version), .d (.str x18140.group.operation), .d (.int .i64 x18140.total.spans), .d (.int .i64 x18140.total.errors), .d (.int .i64 x18140.total.duration), .d (.int .i64 x18140.total.traces)], []) (by kernel_rfl) (detA_none (d_ld_row (enc := TLine.enc) (o := 900000) (g := 0) (i := v18091.toNat) (off := 0) (E := 41) (sz := 7) (l := true) v18090 x18140 (by kernel_rfl) (by kernel_rfl) (by kernel_rfl) h819 (by kernel_rfl))) ?_
        refine l_spec (some 51) (.iad 7 (.t 37) (.t 38)) (.one (.ref 900000 0 v18091.toNat 0), []) (by kernel_rfl) (detA_none (d_iad_v (enc := TLine.enc) (k := .i64) (E := 41) (l := true) (ys := dmm (List.map TLine.enc v18090)) v18090 x18140 (by kernel_rfl) (by kernel_rfl) (by kernel_rfl) (by kernel_rfl) h818 h819)) ?_
        have h820 := set_get x18139 h819
        refine l_spec none (.st 7 (.t 51) (.t 46)) (.tup [], [(900000, 0, .row true 41 7 (dmm (List.map TLine.enc (List.set v18090 v18091.toNat x18139))))]) (by kernel_rfl) (detA_none (d_st_row (enc := TLine.enc) (i := v18091.toNat) (off := 0) (vs := [.d (.str x18139.group.service), .d (.str x18139.group.version), .d (.str x18139.group.operation), .d (.int .i64 x18139.total.spans), .d (.int .i64 x18139.total.errors), .d (.int .i64 x18139.total.duration), .d (.int .i64 x18139.total.traces)]) v18090 x18140 x18139 (by kernel_rfl) (by kernel_rfl) (by kernel_rfl) h819 (by kernel_rfl) (by kernel_rfl) (by kernel_rfl))) ?_
        refine l_renorm 0 (.one (.view 900000 0 0 ((List.map TLine.enc (List.set v18090 v18091.toNat x18139)).length))) (Eq.trans (b := .one (.view 900000 0 0 ((List.map TLine.enc v18090).length))) (by kernel_rfl) (by simp only [List.length_map, List.length_set, List.length_cons, List.length_nil])) ?_
        refine l_renorm 39 (.one (.view 900000 0 0 ((List.map TLine.enc (List.set v18090 v18091.toNat x18139)).length))) (Eq.trans (b := .one (.view 900000 0 0 ((List.map TLine.enc v18090).length))) (by kernel_rfl) (by simp only [List.length_map, List.length_set, List.length_cons, List.length_nil])) ?_
        obtain ⟨h821, x18141, h822, h⟩ := h
        refine l_spec (some 52) (.iad 7 (.t 39) (.t 41)) (.one (.ref 900000 0 ((w64 (v18091 - 1)).toNat) 0), []) (by kernel_rfl) (detA_none (d_iad_v (enc := TLine.enc) (k := .i64) (E := 41) (l := true) (ys := dmm (List.map TLine.enc (List.set v18090 v18091.toNat x18139))) (List.set v18090 v18091.toNat x18139) x18141 (by kernel_rfl) (by kernel_rfl) (by kernel_rfl) (by kernel_rfl) h821 h822)) ?_
        have h823 := set_get x18140 h822
        refine l_spec none (.st 7 (.t 52) (.t 50)) (.tup [], [(900000, 0, .row true 41 7 (dmm (List.map TLine.enc (List.set (List.set v18090 v18091.toNat x18139) ((w64 (v18091 - 1)).toNat) x18140))))]) (by kernel_rfl) (detA_none (d_st_row (enc := TLine.enc) (i := ((w64 (v18091 - 1)).toNat)) (off := 0) (vs := [.d (.str x18140.group.service), .d (.str x18140.group.version), .d (.str x18140.group.operation), .d (.int .i64 x18140.total.spans), .d (.int .i64 x18140.total.errors), .d (.int .i64 x18140.total.duration), .d (.int .i64 x18140.total.traces)]) (List.set v18090 v18091.toNat x18139) x18141 x18140 (by kernel_rfl) (by kernel_rfl) (by kernel_rfl) h822 (by kernel_rfl) (by kernel_rfl) (by kernel_rfl))) ?_
        refine l_renorm 0 (.one (.view 900000 0 0 ((List.map TLine.enc (List.set (List.set v18090 v18091.toNat x18139) ((w64 (v18091 - 1)).toNat) x18140)).length))) (Eq.trans (b := .one (.view 900000 0 0 ((List.map TLine.enc (List.set v18090 v18091.toNat x18139)).length))) (by kernel_rfl) (by simp only [List.length_map, List.length_set, List.length_cons, List.length_nil])) ?_
        refine l_nil ?_
        refine q_bfall ?_
        refine q_fall ?_
        refine AW.regL [(0, none), (1, none), (2, none)] (by kernel_rfl) ?_
        refine l_ds 35 (.one (.d (.int .i64 v18091))) ?_
        refine l_ds 36 (.one (.d (.int .i64 (w64 (v18091 - 1))))) ?_
        refine l_ds 9 (.one (.d (.int .i64 (w64 (v18091 - 1))))) ?_
        refine l_nil ?_
        refine q_fall ?_
        exact Lab.m ((List.set (List.set v18090 v18091.toNat x18139) ((w64 (v18091 - 1)).toNat) x18140), (w64 (v18091 - 1))) [(900000, some 900000)] h
      · refine AW.exit ?_
        refine q_exit ?_
        refine q_exit ?_
        refine q_bhere ?_
        refine q_bfall ?_
        refine q_fall ?_
        refine AW.regL [(0, none), (1, none), (2, none)] (by kernel_rfl) ?_
        refine l_ds 15 (.one (.d (.int .i64 v17819))) ?_
        refine l_ds 16 (.one (.d (.int .i64 (w64 (v17819 + 1))))) ?_
        refine l_ds 8 (.one (.d (.int .i64 (w64 (v17819 + 1))))) ?_
        refine l_nil ?_
        refine q_fall ?_
        exact Lab.m (v18090, (w64 (v17819 + 1))) [(900000, some 900000)] h
  · refine AW.exit ?_
    refine q_exit ?_
    refine q_exit ?_
    refine q_bhere ?_
    obtain ⟨h829, h⟩ := h
    exact q_end [] [] [] [List.map TLine.enc v17818] [] (by kernel_rfl) ⟨by kernel_rfl, by kernel_rfl⟩ (by kernel_rfl) (by kernel_rfl) (by kernel_rfl) (b_own (List.map TLine.enc v17818) rfl (by kernel_rfl) (by kernel_rfl) (by simp only [List.length_map]; exact h829)) (Eq.mp (by kernel_rfl) (hK v17818 h829 h)) (.inl rfl)
def r78_0 : List AR := [⟨some 6, .mov (.c (.int .i64 20)), [], none⟩]
def r78_1 : List AR := [⟨some 10, .mov (.t 6), [], none⟩,
  ⟨some 7, .mov (.c (.int .i64 0)), [], none⟩,
  ⟨some 8, .mov (.t 10), [0, 1, 0, 1], none⟩]
def r78_2 : List AR := [⟨some 11, .mov (.t 8), [], none⟩,
  ⟨some 12, .mov (.t 1), [], none⟩,
  ⟨some 13, .bin .leq (.t 11) (.t 12), [0, 1], none⟩]
def r78_3 : List AR := [⟨some 14, .mov (.t 0), [], none⟩,
  ⟨some 15, .mov (.t 7), [], none⟩,
  ⟨some 16, .mov (.t 8), [], none⟩,
  ⟨some 17, .mov (.t 2), [], none⟩,
  ⟨some 18, .call 88 [.t 14, .t 15, .t 16, .t 17], [0, 1, 2, 3], none⟩]
def r78_4 : List AR := [⟨some 19, .mov (.t 8), [], none⟩,
  ⟨some 7, .mov (.t 19), [0, 0], none⟩]
def r78_5 : List AR := [⟨some 20, .mov (.t 8), [], none⟩,
  ⟨some 21, .mov (.t 6), [], none⟩,
  ⟨some 22, .bin .add (.t 20) (.t 21), [0, 1], none⟩,
  ⟨some 8, .mov (.t 22), [2, 0, 1, 2], none⟩]
def r78_6 : List AR := [⟨some 23, .mov (.t 0), [], none⟩,
  ⟨some 24, .mov (.t 7), [], none⟩,
  ⟨some 25, .mov (.t 1), [], none⟩,
  ⟨some 26, .mov (.t 2), [], none⟩,
  ⟨some 27, .call 88 [.t 23, .t 24, .t 25, .t 26], [0, 1, 2, 3], none⟩]
def r78_7 : List AR := [⟨some 28, .mov (.t 6), [], none⟩,
  ⟨some 29, .mov (.t 1), [], none⟩,
  ⟨some 30, .bin .lss (.t 28) (.t 29), [0, 1], none⟩]
def r78_8 : List AR := [⟨some 31, .mov (.t 6), [], none⟩,
  ⟨some 32, .bin .mul (.c (.int .i64 2)) (.t 31), [0], none⟩,
  ⟨some 7, .mov (.c (.int .i64 0)), [], none⟩,
  ⟨some 8, .mov (.t 32), [1, 2, 0, 1, 2], none⟩]
def r78_9 : List AR := [⟨some 33, .mov (.t 8), [], none⟩,
  ⟨some 34, .mov (.t 1), [], none⟩,
  ⟨some 35, .bin .leq (.t 33) (.t 34), [0, 1], none⟩]
def r78_10 : List AR := [⟨some 36, .mov (.t 0), [], none⟩,
  ⟨some 37, .mov (.t 7), [], none⟩,
  ⟨some 38, .mov (.t 7), [], none⟩,
  ⟨some 39, .mov (.t 6), [], none⟩,
  ⟨some 40, .bin .add (.t 38) (.t 39), [2, 3], none⟩,
  ⟨some 41, .mov (.t 8), [], none⟩,
  ⟨some 42, .mov (.t 2), [], none⟩,
  ⟨some 43, .call 89 [.t 36, .t 37, .t 40, .t 41, .t 42], [0, 1, 4, 5, 6], none⟩]
def r78_11 : List AR := [⟨some 44, .mov (.t 8), [], none⟩,
  ⟨some 7, .mov (.t 44), [0, 0], none⟩]
def r78_12 : List AR := [⟨some 45, .mov (.t 8), [], none⟩,
  ⟨some 46, .mov (.t 6), [], none⟩,
  ⟨some 47, .bin .mul (.c (.int .i64 2)) (.t 46), [1], none⟩,
  ⟨some 48, .bin .add (.t 45) (.t 47), [0, 2], none⟩,
  ⟨some 8, .mov (.t 48), [3, 0, 1, 2, 3], none⟩]
def r78_13 : List AR := [⟨some 49, .mov (.t 7), [], none⟩,
  ⟨some 50, .mov (.t 6), [], none⟩,
  ⟨some 51, .bin .add (.t 49) (.t 50), [0, 1], none⟩,
  ⟨some 9, .mov (.t 51), [2, 0, 1, 2], none⟩]
def r78_14 : List AR := [⟨some 52, .mov (.t 9), [], none⟩,
  ⟨some 53, .mov (.t 1), [], none⟩,
  ⟨some 54, .bin .lss (.t 52) (.t 53), [0, 1], none⟩]
def r78_15 : List AR := [⟨some 55, .mov (.t 0), [], none⟩,
  ⟨some 56, .mov (.t 7), [], none⟩,
  ⟨some 57, .mov (.t 9), [], none⟩,
  ⟨some 58, .mov (.t 1), [], none⟩,
  ⟨some 59, .mov (.t 2), [], none⟩,
  ⟨some 60, .call 89 [.t 55, .t 56, .t 57, .t 58, .t 59], [0, 1, 2, 3, 4], none⟩]
def r78_16 : List AR := [⟨some 61, .mov (.t 6), [], none⟩,
  ⟨some 62, .bin .mul (.t 61) (.c (.int .i64 2)), [0], none⟩,
  ⟨some 6, .mov (.t 62), [1, 0, 1], none⟩]
def c78 : ACode := .seq (.reg r78_0 false) (.seq (.reg r78_1 false) (.seq (.blk 0 (.loop (.seq (.seq (.reg r78_2 false) (.cond (.t 13) (.skip) (.exit 0))) (.blk 1 (.seq (.reg r78_3 false) (.seq (.reg r78_4 false) (.reg r78_5 false))))))) (.seq (.reg r78_6 false) (.blk 2 (.loop (.seq (.seq (.reg r78_7 false) (.cond (.t 30) (.skip) (.exit 2))) (.blk 3 (.seq (.reg r78_8 false) (.seq (.blk 4 (.loop (.seq (.seq (.reg r78_9 false) (.cond (.t 35) (.skip) (.exit 4))) (.blk 5 (.seq (.reg r78_10 false) (.seq (.reg r78_11 false) (.reg r78_12 false))))))) (.seq (.seq (.reg r78_13 false) (.seq (.reg r78_14 false) (.cond (.t 54) (.reg r78_15 false) (.skip)))) (.reg r78_16 false)))))))))))
theorem body78 : Try.f78.body.map (comp Try.prog 63) = some c78 := by kernel_rfl
theorem res78 : allSome (Try.f78.results.toList.map (compRes Try.prog)) = some [] := by kernel_rfl
theorem cok78 {S : FSpec} (h : ∀ args K, S args K → args.all argOk = true ∧ args.length ≤ 63 ∧ AW Try.prog 63 (some ownP) c78 (initS args) (retPost [] args K)) : COK Try.prog 78 S := of_body Try.func78 Try.ntmps78 body78 res78 h

def L78c60_2 (n_78c60 : Int) (r18146 : (List TLine)) (data_78c60 : List TLine) (K : (List TLine) → Prop) (N18147 : Unit → Prop) : Prop :=
  (decide (20 < n_78c60)) = false ∧ (r18146.length = data_78c60.length ∧ K r18146)

def L78c60_1 (n_78c60 : Int) (data_78c60 : List TLine) (K : (List TLine) → Prop) (N17649 : Unit → Prop) : Prop :=
  (decide (20 ≤ n_78c60)) = false ∧ (W88c60 data_78c60 0 n_78c60 fun r18146 => LoopW (fun (s : Unit) N18147 => L78c60_2 n_78c60 r18146 data_78c60 K  N18147) ())

/-- slices.stableCmpFunc[sleuth/estimate.Line] -/
def W78c60 (data_78c60 : List TLine) (n_78c60 : Int) (K : (List TLine) → Prop) : Prop :=
  LoopW (fun (s : Unit) N17649 => L78c60_1 n_78c60 data_78c60 K  N17649) ()

def S78c60 : FSpec := fun args K => ∃ (data_78c60 : List TLine), ∃ (n_78c60 : Int), ∃ (Kr : (List TLine) → Prop), args = [.one (.own 41 7 (List.map TLine.enc data_78c60)), .one (.d (.int .i64 n_78c60)), .one (.d (.fn 60 []))] ∧ W78c60 data_78c60 n_78c60 Kr ∧ ∀ r, r.length = data_78c60.length → Kr r → K (.tup []) [List.map TLine.enc r]

theorem en78 : enters Try.prog 78 = true := by unfold enters; rw [Try.func78]; rfl
theorem cl78c60 (data_78c60 : List TLine) (n_78c60 : Int) {Kr : (List TLine) → Prop} (h : W78c60 data_78c60 n_78c60 Kr) : S78c60 [.one (.own 41 7 (List.map TLine.enc data_78c60)), .one (.d (.int .i64 n_78c60)), .one (.d (.fn 60 []))] (fun rv rows => ∃ r, rv = (.tup []) ∧ rows = [List.map TLine.enc r] ∧ r.length = data_78c60.length ∧ Kr r) := ⟨data_78c60, n_78c60, Kr, rfl, h, fun r hl hr => ⟨r, rfl, rfl, hl, hr⟩⟩

theorem ok78c60 : COK Try.prog 78 S78c60 := by
  refine cok78 fun args K0 hS => ?_
  obtain ⟨data_78c60, n_78c60, K, rfl, h, hK⟩ := hS
  refine ⟨by kernel_rfl, by simp, ?_⟩
  unfold W78c60 at h
  refine AW.sregL [(0, none)] (by kernel_rfl) ?_
  refine l_ds 6 (.one (.d (.int .i64 20))) ?_
  refine l_nil ?_
  refine AW.sregL [(0, none), (1, none), (2, none)] (by kernel_rfl) ?_
  refine l_ds 10 (.one (.d (.int .i64 20))) ?_
  refine l_ds 7 (.one (.d (.int .i64 0))) ?_
  refine l_ds 8 (.one (.d (.int .i64 20))) ?_
  refine l_nil ?_
  refine AW.seq ?_
  refine AW.blk ?_
  refine AW.loopL (S := Unit) (fun _ => [(0, .one (.view 900000 0 0 ((List.map TLine.enc data_78c60).length))), (1, .one (.d (.int .i64 n_78c60))), (2, .one (.d (.fn 60 []))), (6, .one (.d (.int .i64 20))), (7, .one (.d (.int .i64 0))), (8, .one (.d (.int .i64 20)))]) (fun _ => [(900000, .pure true 41 7 (List.map TLine.enc data_78c60))]) (fun (s : Unit) N17649 => L78c60_1 n_78c60 data_78c60 K  N17649) (N := fun s => LoopW (fun (s : Unit) N17649 => L78c60_1 n_78c60 data_78c60 K  N17649) s) (Lab.m () [(900000, some 900000)] h) (fun _ h => h) ?_
  rintro _ N17649 h
  have h : L78c60_1 n_78c60 data_78c60 K  N17649 := h
  unfold L78c60_1 at h
  refine AW.seq ?_
  refine AW.sregL [(0, none), (1, none), (2, none)] (by kernel_rfl) ?_
  refine l_ds 11 (.one (.d (.int .i64 20))) ?_
  refine l_ds 12 (.one (.d (.int .i64 n_78c60))) ?_
  refine l_ds 13 (.one (.d (.bool (decide (20 ≤ n_78c60))))) ?_
  refine l_nil ?_
  obtain ⟨h8, h⟩ := h
  refine AW.cond (t := (decide (20 ≤ n_78c60))) (by kernel_rfl) (fun he => ?_) (fun he => ?_)
  · rw [h8] at he; cases he
  · refine AW.exit ?_
    refine q_exit ?_
    refine q_exit ?_
    refine q_bhere ?_
    refine q_fall ?_
    refine AW.sregL [(0, none), (1, none), (2, none), (3, none), (4, none)] (by kernel_rfl) ?_
    refine l_ds 23 (.one (.view 900000 0 0 ((List.map TLine.enc data_78c60).length))) ?_
    refine l_ds 24 (.one (.d (.int .i64 0))) ?_
    refine l_ds 25 (.one (.d (.int .i64 n_78c60))) ?_
    refine l_ds 26 (.one (.d (.fn 60 []))) ?_
    refine l_call ok88c60 en88 (some 27) [.one (.view 900000 0 0 ((List.map TLine.enc data_78c60).length)), .one (.d (.int .i64 0)), .one (.d (.int .i64 n_78c60)), .one (.d (.fn 60 []))] [true, false, false, false] [.one (.own 41 7 (List.map TLine.enc data_78c60)), .one (.d (.int .i64 0)), .one (.d (.int .i64 n_78c60)), .one (.d (.fn 60 []))] [] (by kernel_rfl) (ps_own (by kernel_rfl) (by kernel_rfl) rfl (ps_plain (pv_one pf_d) (ps_plain (pv_one pf_d) (ps_plain (pv_one pf_d) ps_nil)))) (by kernel_rfl) (by kernel_rfl) (by kernel_rfl) (cl88c60 data_78c60 0 n_78c60 h) ?_
    rintro hR _ _ ⟨r18146, rfl, rfl, h10, h⟩
    refine ⟨false, (.tup [], [(900000, 0, .row true 41 7 (dmm (List.map TLine.enc r18146)))]), (fun hz => (by cases hz)), (ret_own (z := false) (by kernel_rfl) (by kernel_rfl) (ob_row (ys := dmm (List.map TLine.enc data_78c60)) (enc := TLine.enc) r18146 (by kernel_rfl) (by rw [List.length_map, List.length_map]; exact h10.symm) (fun _ => rfl))), ?_⟩
    refine l_renorm 0 (.one (.view 900000 0 0 ((List.map TLine.enc r18146).length))) (Eq.trans (b := .one (.view 900000 0 0 ((List.map TLine.enc data_78c60).length))) (by kernel_rfl) (by simp only [List.length_map, List.length_set, List.length_cons, List.length_nil, h10])) ?_
    refine l_nil ?_
    refine AW.blk ?_
    refine AW.loopL (S := Unit) (fun _ => [(0, .one (.view 900000 0 0 ((List.map TLine.enc r18146).length))), (1, .one (.d (.int .i64 n_78c60))), (2, .one (.d (.fn 60 []))), (6, .one (.d (.int .i64 20)))]) (fun _ => [(900000, .pure true 41 7 (List.map TLine.enc r18146))]) (fun (s : Unit) N18147 => L78c60_2 n_78c60 r18146 data_78c60 K  N18147) (N := fun s => LoopW (fun (s : Unit) N18147 => L78c60_2 n_78c60 r18146 data_78c60 K  N18147) s) (Lab.m () [(900000, some 900000)] h) (fun _ h => h) ?_
    rintro _ N18147 h
    have h : L78c60_2 n_78c60 r18146 data_78c60 K  N18147 := h
    unfold L78c60_2 at h
    refine AW.seq ?_
    refine AW.sregL [(0, none), (1, none), (2, none)] (by kernel_rfl) ?_
    refine l_ds 28 (.one (.d (.int .i64 20))) ?_
    refine l_ds 29 (.one (.d (.int .i64 n_78c60))) ?_
    refine l_ds 30 (.one (.d (.bool (decide (20 < n_78c60))))) ?_
    refine l_nil ?_
    obtain ⟨h14, h⟩ := h
    refine AW.cond (t := (decide (20 < n_78c60))) (by kernel_rfl) (fun he => ?_) (fun he => ?_)
    · rw [h14] at he; cases he
    · refine AW.exit ?_
      refine q_exit ?_
      refine q_exit ?_
      refine q_bhere ?_
      obtain ⟨h15, h⟩ := h
      exact q_end [] [] [] [List.map TLine.enc r18146] [] (by kernel_rfl) ⟨by kernel_rfl, by kernel_rfl⟩ (by kernel_rfl) (by kernel_rfl) (by kernel_rfl) (b_own (List.map TLine.enc r18146) rfl (by kernel_rfl) (by kernel_rfl) (by simp only [List.length_map]; exact h15)) (Eq.mp (by kernel_rfl) (hK r18146 h15 h)) (.inl rfl)
def r59_0 : List AR := [⟨some 4, .mov (.t 0), [], none⟩,
  ⟨some 5, .mov (.t 0), [], none⟩,
  ⟨some 6, .lens (.t 5), [1], none⟩,
  ⟨some 7, .mov (.t 1), [], none⟩,
  ⟨some 8, .call 78 [.t 4, .t 6, .t 7], [0, 2, 3], none⟩]
def c59 : ACode := .reg r59_0 false
theorem body59 : Try.f59.body.map (comp Try.prog 9) = some c59 := by kernel_rfl
theorem res59 : allSome (Try.f59.results.toList.map (compRes Try.prog)) = some [] := by kernel_rfl
theorem cok59 {S : FSpec} (h : ∀ args K, S args K → args.all argOk = true ∧ args.length ≤ 9 ∧ AW Try.prog 9 (some ownP) c59 (initS args) (retPost [] args K)) : COK Try.prog 59 S := of_body Try.func59 Try.ntmps59 body59 res59 h

/-- slices.SortStableFunc[[]sleuth/estimate.Line,sleuth/estimate.Line] -/
def W59c60 (x_0_59c60 : List TLine) (K : (List TLine) → Prop) : Prop :=
  W78c60 x_0_59c60 (x_0_59c60.length : Int) fun r18148 => r18148.length = x_0_59c60.length ∧ K r18148

def S59c60 : FSpec := fun args K => ∃ (x_0_59c60 : List TLine), ∃ (Kr : (List TLine) → Prop), args = [.one (.own 41 7 (List.map TLine.enc x_0_59c60)), .one (.d (.fn 60 []))] ∧ W59c60 x_0_59c60 Kr ∧ ∀ r, r.length = x_0_59c60.length → Kr r → K (.tup []) [List.map TLine.enc r]

theorem en59 : enters Try.prog 59 = true := by unfold enters; rw [Try.func59]; rfl
theorem cl59c60 (x_0_59c60 : List TLine) {Kr : (List TLine) → Prop} (h : W59c60 x_0_59c60 Kr) : S59c60 [.one (.own 41 7 (List.map TLine.enc x_0_59c60)), .one (.d (.fn 60 []))] (fun rv rows => ∃ r, rv = (.tup []) ∧ rows = [List.map TLine.enc r] ∧ r.length = x_0_59c60.length ∧ Kr r) := ⟨x_0_59c60, Kr, rfl, h, fun r hl hr => ⟨r, rfl, rfl, hl, hr⟩⟩

theorem ok59c60 : COK Try.prog 59 S59c60 := by
  refine cok59 fun args K0 hS => ?_
  obtain ⟨x_0_59c60, K, rfl, h, hK⟩ := hS
  refine ⟨by kernel_rfl, by simp, ?_⟩
  unfold W59c60 at h
  refine AW.regL [(0, none), (1, none), (2, none), (3, none), (4, none)] (by kernel_rfl) ?_
  refine l_ds 4 (.one (.view 900000 0 0 ((List.map TLine.enc x_0_59c60).length))) ?_
  refine l_ds 5 (.one (.view 900000 0 0 ((List.map TLine.enc x_0_59c60).length))) ?_
  refine l_spec (some 6) (.lens (.t 5)) (.one (.d (.int .i64 (x_0_59c60.length : Int))), []) (by kernel_rfl) (detA_none (d_lens_v (enc := TLine.enc) (o := 900000) (g := 0) x_0_59c60 (by kernel_rfl))) ?_
  refine l_ds 7 (.one (.d (.fn 60 []))) ?_
  refine l_call ok78c60 en78 (some 8) [.one (.view 900000 0 0 ((List.map TLine.enc x_0_59c60).length)), .one (.d (.int .i64 (x_0_59c60.length : Int))), .one (.d (.fn 60 []))] [true, false, false] [.one (.own 41 7 (List.map TLine.enc x_0_59c60)), .one (.d (.int .i64 (x_0_59c60.length : Int))), .one (.d (.fn 60 []))] [] (by kernel_rfl) (ps_own (by kernel_rfl) (by kernel_rfl) rfl (ps_plain (pv_one pf_d) (ps_plain (pv_one pf_d) ps_nil))) (by kernel_rfl) (by kernel_rfl) (by kernel_rfl) (cl78c60 x_0_59c60 (x_0_59c60.length : Int) h) ?_
  rintro hR _ _ ⟨r18148, rfl, rfl, h1, h⟩
  refine ⟨false, (.tup [], [(900000, 0, .row true 41 7 (dmm (List.map TLine.enc r18148)))]), (fun hz => (by cases hz)), (ret_own (z := false) (by kernel_rfl) (by kernel_rfl) (ob_row (ys := dmm (List.map TLine.enc x_0_59c60)) (enc := TLine.enc) r18148 (by kernel_rfl) (by rw [List.length_map, List.length_map]; exact h1.symm) (fun _ => rfl))), ?_⟩
  refine l_nil ?_
  obtain ⟨h2, h⟩ := h
  exact q_end [] [] [] [List.map TLine.enc r18148] [] (by kernel_rfl) ⟨by kernel_rfl, by kernel_rfl⟩ (by kernel_rfl) (by kernel_rfl) (by kernel_rfl) (b_own (List.map TLine.enc r18148) rfl (by kernel_rfl) (by kernel_rfl) (by simp only [List.length_map]; exact h2)) (Eq.mp (by kernel_rfl) (hK r18148 h2 h)) (.inl rfl)
def r35_0 : List AR := [⟨some 4, .mov (.c .nils), [], none⟩]
def r35_1 : List AR := [⟨some 6, .mov (.t 0), [], none⟩,
  ⟨some 7, .call 58 [.t 6], [0], none⟩,
  ⟨some 5, .mov (.t 7), [1, 1, 0, 1], none⟩]
def r35_2 : List AR := [⟨some 8, .mov (.t 5), [], none⟩,
  ⟨some 9, .call 59 [.t 8, .f 60], [0], none⟩]
def r35_3 : List AR := [⟨some 10, .mov (.t 5), [], none⟩,
  ⟨some 11, .mov (.t 1), [], none⟩,
  ⟨some 12, .mov (.t 5), [], none⟩,
  ⟨some 13, .lens (.t 12), [2], none⟩,
  ⟨some 14, .mm false [.t 11, .t 13], [1, 3], none⟩,
  ⟨some 15, .mm true [.c (.int .i64 0), .t 14], [4], none⟩,
  ⟨some 16, .slc 7 (.t 10) none (some (.t 15)) none, [0, 5], none⟩,
  ⟨some 4, .mov (.t 16), [6, 0, 1, 2, 3, 4, 5, 6], none⟩]
def c35 : ACode := .seq (.reg r35_0 false) (.seq (.reg r35_1 false) (.seq (.reg r35_2 false) (.seq (.reg r35_3 false) (.ret))))
theorem body35 : Try.f35.body.map (comp Try.prog 17) = some c35 := by kernel_rfl
theorem res35 : allSome (Try.f35.results.toList.map (compRes Try.prog)) = some [.s 4] := by kernel_rfl
theorem cok35 {S : FSpec} (h : ∀ args K, S args K → args.all argOk = true ∧ args.length ≤ 17 ∧ AW Try.prog 17 (some ownP) c35 (initS args) (retPost [.s 4] args K)) : COK Try.prog 35 S := of_body Try.func35 Try.ntmps35 body35 res35 h

/-- sleuth/estimate.Top -/
def W35 (l_35 : List TLine) (n_35 : Int) (K : (List TLine) → Prop) : Prop :=
  W58 l_35 fun r17647 => W59c60 r17647 fun r18150 => 0 ≤ (if (if (r18150.length : Int) < n_35 then (r18150.length : Int) else n_35) > 0 then (if (r18150.length : Int) < n_35 then (r18150.length : Int) else n_35) else 0) ∧ (if (if (r18150.length : Int) < n_35 then (r18150.length : Int) else n_35) > 0 then (if (r18150.length : Int) < n_35 then (r18150.length : Int) else n_35) else 0) ≤ (r18150.length : Int) ∧ (K (List.take ((if (if (r18150.length : Int) < n_35 then (r18150.length : Int) else n_35) > 0 then (if (r18150.length : Int) < n_35 then (r18150.length : Int) else n_35) else 0).toNat - 0) (List.drop 0 r18150)))

def S35 : FSpec := fun args K => ∃ (l_35 : List TLine), ∃ (n_35 : Int), ∃ (Kr : (List TLine) → Prop), args = [.one (.d (.sl (List.map TLine.enc l_35))), .one (.d (.int .i64 n_35))] ∧ W35 l_35 n_35 Kr ∧ ∀ r, Kr r → K (.one (.d (.sl (List.map TLine.enc r)))) []

theorem en35 : enters Try.prog 35 = true := by unfold enters; rw [Try.func35]; rfl
theorem cl35 (l_35 : List TLine) (n_35 : Int) {Kr : (List TLine) → Prop} (h : W35 l_35 n_35 Kr) : S35 [.one (.d (.sl (List.map TLine.enc l_35))), .one (.d (.int .i64 n_35))] (fun rv rows => ∃ r, rv = (.one (.d (.sl (List.map TLine.enc r)))) ∧ rows = [] ∧ Kr r) := ⟨l_35, n_35, Kr, rfl, h, fun r hr => ⟨r, rfl, rfl, hr⟩⟩

theorem ok35 : COK Try.prog 35 S35 := by
  refine cok35 fun args K0 hS => ?_
  obtain ⟨l_35, n_35, K, rfl, h, hK⟩ := hS
  refine ⟨by kernel_rfl, by simp, ?_⟩
  unfold W35 at h
  refine AW.sregL [(0, none)] (by kernel_rfl) ?_
  refine l_ds 4 (.one (.nils)) ?_
  refine l_nil ?_
  refine AW.sregL [(0, none), (1, none), (2, none)] (by kernel_rfl) ?_
  refine l_ds 6 (.one (.d (.sl (List.map TLine.enc l_35)))) ?_
  refine l_call ok58 en58 (some 7) [.one (.d (.sl (List.map TLine.enc l_35)))] [false] [.one (.d (.sl (List.map TLine.enc l_35)))] [] (by kernel_rfl) ⟨by kernel_rfl, by kernel_rfl⟩ (by kernel_rfl) (by kernel_rfl) (by kernel_rfl) (cl58 l_35 h) ?_
  rintro hR _ _ ⟨r17647, rfl, rfl, h⟩
  refine ⟨false, (.one (.view 7 1 0 ((List.map TLine.enc r17647).length)), [(7, 1, .row true 41 7 (dmm (List.map TLine.enc r17647)))]), (fun hz => (by cases hz)), (ret_R hR (by kernel_rfl)), ?_⟩
  refine l_ds 5 (.one (.view 7 1 0 ((List.map TLine.enc r17647).length))) ?_
  refine l_nil ?_
  refine AW.sregL [(0, none), (1, none)] (by kernel_rfl) ?_
  refine l_ds 8 (.one (.view 7 1 0 ((List.map TLine.enc r17647).length))) ?_
  refine l_call ok59c60 en59 (some 9) [.one (.view 7 1 0 ((List.map TLine.enc r17647).length)), .one (.fn 60 [])] [true, false] [.one (.own 41 7 (List.map TLine.enc r17647)), .one (.d (.fn 60 []))] [] (by kernel_rfl) (ps_own (by kernel_rfl) (by kernel_rfl) rfl (ps_plain (pv_one (pk (.fn 60 []) [] (by kernel_rfl) (by kernel_rfl))) ps_nil)) (by kernel_rfl) (by kernel_rfl) (by kernel_rfl) (cl59c60 r17647 h) ?_
  rintro hR _ _ ⟨r18150, rfl, rfl, h4, h⟩
  refine ⟨false, (.tup [], [(7, 1, .row true 41 7 (dmm (List.map TLine.enc r18150)))]), (fun hz => (by cases hz)), (ret_own (z := false) (by kernel_rfl) (by kernel_rfl) (ob_row (ys := dmm (List.map TLine.enc r17647)) (enc := TLine.enc) r18150 (by kernel_rfl) (by rw [List.length_map, List.length_map]; exact h4.symm) (fun _ => rfl))), ?_⟩
  refine l_renorm 5 (.one (.view 7 1 0 ((List.map TLine.enc r18150).length))) (Eq.trans (b := .one (.view 7 1 0 ((List.map TLine.enc r17647).length))) (by kernel_rfl) (by simp only [List.length_map, List.length_set, List.length_cons, List.length_nil, h4])) ?_
  refine l_nil ?_
  refine AW.sregL [(0, none), (1, none), (2, none), (3, none), (4, none), (5, none), (6, none), (7, none)] (by kernel_rfl) ?_
  refine l_ds 10 (.one (.view 7 1 0 ((List.map TLine.enc r18150).length))) ?_
  refine l_ds 11 (.one (.d (.int .i64 n_35))) ?_
  refine l_ds 12 (.one (.view 7 1 0 ((List.map TLine.enc r18150).length))) ?_
  refine l_spec (some 13) (.lens (.t 12)) (.one (.d (.int .i64 (r18150.length : Int))), []) (by kernel_rfl) (detA_none (d_lens_v (enc := TLine.enc) (o := 7) (g := 1) r18150 (by kernel_rfl))) ?_
  refine l_ds 14 (.one (.d (.int .i64 (if (r18150.length : Int) < n_35 then (r18150.length : Int) else n_35)))) ?_
  refine l_ds 15 (.one (.d (.int .i64 (if (if (r18150.length : Int) < n_35 then (r18150.length : Int) else n_35) > 0 then (if (r18150.length : Int) < n_35 then (r18150.length : Int) else n_35) else 0)))) ?_
  obtain ⟨h8, h9, h⟩ := h
  refine l_spec (some 16) (.slc 7 (.t 10) none (some (.t 15)) none) (.one (.view 7 1 0 ((if (if (r18150.length : Int) < n_35 then (r18150.length : Int) else n_35) > 0 then (if (r18150.length : Int) < n_35 then (r18150.length : Int) else n_35) else 0).toNat - 0)), []) (by kernel_rfl) (detA_none (d_slc_vf (enc := TLine.enc) (E := 41) (l := true) (ys := dmm (List.map TLine.enc r18150)) (lo' := none) (hi' := (some (if (if (r18150.length : Int) < n_35 then (r18150.length : Int) else n_35) > 0 then (if (r18150.length : Int) < n_35 then (r18150.length : Int) else n_35) else 0))) r18150 (by kernel_rfl) (by kernel_rfl) (by kernel_rfl) (by kernel_rfl) (by kernel_rfl) (b_hi h8 h9))) ?_
  refine l_ds 4 (.one (.view 7 1 0 ((if (if (r18150.length : Int) < n_35 then (r18150.length : Int) else n_35) > 0 then (if (r18150.length : Int) < n_35 then (r18150.length : Int) else n_35) else 0).toNat - 0))) ?_
  refine l_nil ?_
  refine AW.ret ?_
  exact q_end [.one (.view 7 1 0 ((if (if (r18150.length : Int) < n_35 then (r18150.length : Int) else n_35) > 0 then (if (r18150.length : Int) < n_35 then (r18150.length : Int) else n_35) else 0).toNat - 0))] [false] [.one (.d (.sl (List.map TLine.enc (List.take ((if (if (r18150.length : Int) < n_35 then (r18150.length : Int) else n_35) > 0 then (if (r18150.length : Int) < n_35 then (r18150.length : Int) else n_35) else 0).toNat - 0) (List.drop 0 r18150)))))] [] [7] (by kernel_rfl) (ps_plain (pv_one (pf_part (enc := TLine.enc) (E := 41) (sz := 7) (l := true) r18150 (by kernel_rfl) (by kernel_rfl) (by simp only [List.length_map, List.length_cons, List.length_nil] at *; omega))) ps_nil) (by kernel_rfl) (by kernel_rfl) (by kernel_rfl) (by kernel_rfl) (Eq.mp (by kernel_rfl) (hK (List.take ((if (if (r18150.length : Int) < n_35 then (r18150.length : Int) else n_35) > 0 then (if (r18150.length : Int) < n_35 then (r18150.length : Int) else n_35) else 0).toNat - 0) (List.drop 0 r18150)) h)) (.inr rfl)
def r22_0 : List AR := [⟨some 4, .mov (.c (.bool false)), [], none⟩]
def r22_1 : List AR := [⟨some 6, .mov (.t 0), [], none⟩,
  ⟨some 7, .lens (.t 6), [0], none⟩,
  ⟨some 8, .mov (.t 1), [], none⟩,
  ⟨some 9, .lens (.t 8), [2], none⟩,
  ⟨some 10, .bin .neq (.t 7) (.t 9), [1, 3], none⟩]
def r22_2 : List AR := [⟨some 4, .mov (.c (.bool false)), [], none⟩]
def r22_3 : List AR := [⟨some 5, .mov (.c (.int .i64 0)), [], none⟩]
def r22_4 : List AR := [⟨some 11, .mov (.t 5), [], none⟩,
  ⟨some 12, .mov (.t 0), [], none⟩,
  ⟨some 13, .lens (.t 12), [1], none⟩,
  ⟨some 14, .bin .lss (.t 11) (.t 13), [0, 2], none⟩]
def r22_5 : List AR := [⟨some 17, .mov (.t 0), [], none⟩,
  ⟨some 18, .mov (.t 5), [], none⟩,
  ⟨some 19, .iad 7 (.t 17) (.t 18), [0, 1], none⟩,
  ⟨some 20, .ld true 7 (.t 19), [2], none⟩,
  ⟨some 21, .mov (.t 1), [], none⟩,
  ⟨some 22, .mov (.t 5), [], none⟩,
  ⟨some 23, .iad 7 (.t 21) (.t 22), [4, 5], none⟩,
  ⟨some 24, .ld true 7 (.t 23), [6], none⟩,
  ⟨some 25, .eqs true [.s, .s, .s, .i, .i, .i, .i] (.t 20) (.t 24), [3, 7], none⟩]
def r22_6 : List AR := [⟨some 4, .mov (.c (.bool false)), [], none⟩]
def r22_7 : List AR := [⟨some 15, .mov (.t 5), [], none⟩,
  ⟨some 16, .bin .add (.t 15) (.c (.int .i64 1)), [0], none⟩,
  ⟨some 5, .mov (.t 16), [1, 0, 1], none⟩]
def r22_8 : List AR := [⟨some 4, .mov (.c (.bool true)), [], none⟩]
def c22 : ACode := .seq (.reg r22_0 false) (.seq (.seq (.reg r22_1 false) (.cond (.t 10) (.seq (.reg r22_2 false) (.ret)) (.skip))) (.seq (.seq (.reg r22_3 false) (.blk 0 (.loop (.seq (.seq (.reg r22_4 false) (.cond (.t 14) (.skip) (.exit 0))) (.seq (.blk 1 (.seq (.reg r22_5 true) (.cond (.t 25) (.seq (.reg r22_6 false) (.ret)) (.skip)))) (.reg r22_7 false)))))) (.seq (.reg r22_8 false) (.ret))))
theorem body22 : Try.f22.body.map (comp Try.prog 26) = some c22 := by kernel_rfl
theorem res22 : allSome (Try.f22.results.toList.map (compRes Try.prog)) = some [.s 4] := by kernel_rfl
theorem cok22 {S : FSpec} (h : ∀ args K, S args K → args.all argOk = true ∧ args.length ≤ 26 ∧ AW Try.prog 26 (some ownP) c22 (initS args) (retPost [.s 4] args K)) : COK Try.prog 22 S := of_body Try.func22 Try.ntmps22 body22 res22 h

def L22_1 (a_22 : List TLine) (b_22 : List TLine) (K : Bool → Prop) (v18186 : Int) (N18195 : Int → Prop) : Prop :=
  Cond (decide (v18186 < (a_22.length : Int))) (Idx a_22 v18186 fun x18202 => Idx b_22 v18186 fun x18203 => Cond (!(decide (x18202.group.service = x18203.group.service) && (decide (x18202.group.version = x18203.group.version) && (decide (x18202.group.operation = x18203.group.operation) && (decide (x18202.total.spans = x18203.total.spans) && (decide (x18202.total.errors = x18203.total.errors) && (decide (x18202.total.duration = x18203.total.duration) && (decide (x18202.total.traces = x18203.total.traces) && true)))))))) (K false) (N18195 (w64 (v18186 + 1)))) (K true)

/-- sleuth/sleuthlaw25.same -/
def W22 (a_22 : List TLine) (b_22 : List TLine) (K : Bool → Prop) : Prop :=
  Cond (decide (¬ (a_22.length : Int) = (b_22.length : Int))) (K false) (LoopW (fun (s : Int) N18195 => L22_1 a_22 b_22 K s N18195) 0)

def S22 : FSpec := fun args K => ∃ (a_22 : List TLine), ∃ (b_22 : List TLine), ∃ (Kr : Bool → Prop), args = [.one (.d (.sl (List.map TLine.enc a_22))), .one (.d (.sl (List.map TLine.enc b_22)))] ∧ W22 a_22 b_22 Kr ∧ ∀ r, Kr r → K (.one (.d (.bool r))) []

theorem en22 : enters Try.prog 22 = true := by unfold enters; rw [Try.func22]; rfl
theorem cl22 (a_22 : List TLine) (b_22 : List TLine) {Kr : Bool → Prop} (h : W22 a_22 b_22 Kr) : S22 [.one (.d (.sl (List.map TLine.enc a_22))), .one (.d (.sl (List.map TLine.enc b_22)))] (fun rv rows => ∃ r, rv = (.one (.d (.bool r))) ∧ rows = [] ∧ Kr r) := ⟨a_22, b_22, Kr, rfl, h, fun r hr => ⟨r, rfl, rfl, hr⟩⟩

theorem ok22 : COK Try.prog 22 S22 := by
  refine cok22 fun args K0 hS => ?_
  obtain ⟨a_22, b_22, K, rfl, h, hK⟩ := hS
  refine ⟨by kernel_rfl, by simp, ?_⟩
  unfold W22 at h
  refine AW.sregL [(0, none)] (by kernel_rfl) ?_
  refine l_ds 4 (.one (.d (.bool false))) ?_
  refine l_nil ?_
  refine AW.seq ?_
  refine AW.sregL [(0, none), (1, none), (2, none), (3, none), (4, none)] (by kernel_rfl) ?_
  refine l_ds 6 (.one (.d (.sl (List.map TLine.enc a_22)))) ?_
  refine l_spec (some 7) (.lens (.t 6)) (.one (.d (.int .i64 (a_22.length : Int))), []) (by kernel_rfl) (detA_none (d_lens_sl (enc := TLine.enc) a_22 (by kernel_rfl))) ?_
  refine l_ds 8 (.one (.d (.sl (List.map TLine.enc b_22)))) ?_
  refine l_spec (some 9) (.lens (.t 8)) (.one (.d (.int .i64 (b_22.length : Int))), []) (by kernel_rfl) (detA_none (d_lens_sl (enc := TLine.enc) b_22 (by kernel_rfl))) ?_
  refine l_ds 10 (.one (.d (.bool (decide (¬ (a_22.length : Int) = (b_22.length : Int)))))) ?_
  refine l_nil ?_
  refine AW.cond' (by kernel_rfl) h (fun h => ?_) (fun h => ?_)
  · refine AW.sregL [(0, none)] (by kernel_rfl) ?_
    refine l_ds 4 (.one (.d (.bool false))) ?_
    refine l_nil ?_
    refine AW.ret ?_
    refine q_ret ?_
    exact q_end [.one (.d (.bool false))] [false] [.one (.d (.bool false))] [] [] (by kernel_rfl) ⟨by kernel_rfl, by kernel_rfl⟩ (by kernel_rfl) (by kernel_rfl) (by kernel_rfl) (by kernel_rfl) (Eq.mp (by kernel_rfl) (hK false h)) (.inr rfl)
  · refine AW.skip ?_
    refine q_fall ?_
    refine AW.seq ?_
    refine AW.sregL [(0, none)] (by kernel_rfl) ?_
    refine l_ds 5 (.one (.d (.int .i64 0))) ?_
    refine l_nil ?_
    refine AW.blk ?_
    refine AW.loopL (S := Int) (fun s => (fun (v18186 : Int) => [(0, .one (.d (.sl (List.map TLine.enc a_22)))), (1, .one (.d (.sl (List.map TLine.enc b_22)))), (5, .one (.d (.int .i64 v18186)))]) s) (fun s => (fun (v18186 : Int) => []) s) (fun (s : Int) N18195 => L22_1 a_22 b_22 K s N18195) (N := fun s => LoopW (fun (s : Int) N18195 => L22_1 a_22 b_22 K s N18195) s) (Lab.m 0 [] h) (fun _ h => h) ?_
    rintro v18186 N18195 h
    have h : L22_1 a_22 b_22 K v18186 N18195 := h
    unfold L22_1 at h
    refine AW.seq ?_
    refine AW.sregL [(0, none), (1, none), (2, none), (3, none)] (by kernel_rfl) ?_
    refine l_ds 11 (.one (.d (.int .i64 v18186))) ?_
    refine l_ds 12 (.one (.d (.sl (List.map TLine.enc a_22)))) ?_
    refine l_spec (some 13) (.lens (.t 12)) (.one (.d (.int .i64 (a_22.length : Int))), []) (by kernel_rfl) (detA_none (d_lens_sl (enc := TLine.enc) a_22 (by kernel_rfl))) ?_
    refine l_ds 14 (.one (.d (.bool (decide (v18186 < (a_22.length : Int)))))) ?_
    refine l_nil ?_
    refine AW.cond' (by kernel_rfl) h (fun h => ?_) (fun h => ?_)
    · refine AW.skip ?_
      refine q_fall ?_
      refine AW.seq ?_
      refine AW.blk ?_
      refine AW.sregdL follows_mixed [[], [], [0, 1], [0, 1, 2], [], [], [4, 5], [4, 5, 6], [0, 1, 2, 3, 4, 5, 6, 7]] [(0, none), (1, none), (2, none), (3, none), (4, none), (5, none), (6, none), (7, none), (8, none)] (by kernel_rfl) ?_
      refine l_ds 17 (.one (.d (.sl (List.map TLine.enc a_22)))) ?_
      refine l_ds 18 (.one (.d (.int .i64 v18186))) ?_
      obtain ⟨h93, x18202, h94, h⟩ := h
      refine l_spec (some 19) (.iad 7 (.t 17) (.t 18)) (.one (.d (.ptr [.str x18202.group.service, .str x18202.group.version, .str x18202.group.operation, .int .i64 x18202.total.spans, .int .i64 x18202.total.errors, .int .i64 x18202.total.duration, .int .i64 x18202.total.traces])), []) (by kernel_rfl) (detA_none (d_iad_sl (enc := TLine.enc) (k := .i64) a_22 x18202 (by kernel_rfl) (by kernel_rfl) h93 h94 rfl)) ?_
      refine l_ds 20 (.agg [.d (.str x18202.group.service), .d (.str x18202.group.version), .d (.str x18202.group.operation), .d (.int .i64 x18202.total.spans), .d (.int .i64 x18202.total.errors), .d (.int .i64 x18202.total.duration), .d (.int .i64 x18202.total.traces)]) ?_
      refine l_ds 21 (.one (.d (.sl (List.map TLine.enc b_22)))) ?_
      refine l_ds 22 (.one (.d (.int .i64 v18186))) ?_
      obtain ⟨h95, x18203, h96, h⟩ := h
      refine l_spec (some 23) (.iad 7 (.t 21) (.t 22)) (.one (.d (.ptr [.str x18203.group.service, .str x18203.group.version, .str x18203.group.operation, .int .i64 x18203.total.spans, .int .i64 x18203.total.errors, .int .i64 x18203.total.duration, .int .i64 x18203.total.traces])), []) (by kernel_rfl) (detA_none (d_iad_sl (enc := TLine.enc) (k := .i64) b_22 x18203 (by kernel_rfl) (by kernel_rfl) h95 h96 rfl)) ?_
      refine l_ds 24 (.agg [.d (.str x18203.group.service), .d (.str x18203.group.version), .d (.str x18203.group.operation), .d (.int .i64 x18203.total.spans), .d (.int .i64 x18203.total.errors), .d (.int .i64 x18203.total.duration), .d (.int .i64 x18203.total.traces)]) ?_
      refine l_ds 25 (.one (.d (.bool (!(decide (x18202.group.service = x18203.group.service) && (decide (x18202.group.version = x18203.group.version) && (decide (x18202.group.operation = x18203.group.operation) && (decide (x18202.total.spans = x18203.total.spans) && (decide (x18202.total.errors = x18203.total.errors) && (decide (x18202.total.duration = x18203.total.duration) && (decide (x18202.total.traces = x18203.total.traces) && true))))))))))) ?_
      refine l_nil ?_
      refine AW.cond' (by kernel_rfl) h (fun h => ?_) (fun h => ?_)
      · refine AW.sregL [(0, none)] (by kernel_rfl) ?_
        refine l_ds 4 (.one (.d (.bool false))) ?_
        refine l_nil ?_
        refine AW.ret ?_
        refine q_bret ?_
        refine q_ret ?_
        refine q_ret ?_
        refine q_bret ?_
        refine q_ret ?_
        exact q_end [.one (.d (.bool false))] [false] [.one (.d (.bool false))] [] [] (by kernel_rfl) ⟨by kernel_rfl, by kernel_rfl⟩ (by kernel_rfl) (by kernel_rfl) (by kernel_rfl) (by kernel_rfl) (Eq.mp (by kernel_rfl) (hK false h)) (.inr rfl)
      · refine AW.skip ?_
        refine q_bfall ?_
        refine q_fall ?_
        refine AW.regL [(0, none), (1, none), (2, none)] (by kernel_rfl) ?_
        refine l_ds 15 (.one (.d (.int .i64 v18186))) ?_
        refine l_ds 16 (.one (.d (.int .i64 (w64 (v18186 + 1))))) ?_
        refine l_ds 5 (.one (.d (.int .i64 (w64 (v18186 + 1))))) ?_
        refine l_nil ?_
        refine q_fall ?_
        exact Lab.m (w64 (v18186 + 1)) [] h
    · refine AW.exit ?_
      refine q_exit ?_
      refine q_exit ?_
      refine q_bhere ?_
      refine q_fall ?_
      refine AW.sregL [(0, none)] (by kernel_rfl) ?_
      refine l_ds 4 (.one (.d (.bool true))) ?_
      refine l_nil ?_
      refine AW.ret ?_
      exact q_end [.one (.d (.bool true))] [false] [.one (.d (.bool true))] [] [] (by kernel_rfl) ⟨by kernel_rfl, by kernel_rfl⟩ (by kernel_rfl) (by kernel_rfl) (by kernel_rfl) (by kernel_rfl) (Eq.mp (by kernel_rfl) (hK true h)) (.inr rfl)
def r11_0 : List AR := [⟨some 3, .box 27 true 7 (.t 0), [], none⟩,
  ⟨some 4, .box 28 true 3 (.t 1), [], none⟩,
  ⟨some 6, .mov (.c (.bool false)), [], none⟩]
def r11_1 : List AR := [⟨some 14, .call 12 [], [], none⟩,
  ⟨some 15, .un .not (.t 14), [0], none⟩]
def r11_2 : List AR := [⟨some 6, .mov (.c (.bool false)), [], none⟩]
def r11_3 : List AR := [⟨some 16, .ld true 7 (.t 3), [], none⟩,
  ⟨some 17, .ld true 3 (.t 4), [], none⟩,
  ⟨some 18, .call 13 [.t 16, .t 17], [0, 1], none⟩,
  ⟨some 19, .call 23 [.t 18, .c (.int .i64 3)], [2, 2], none⟩,
  ⟨some 7, .mov (.t 19), [3, 3, 0, 1, 2, 3], none⟩]
def r11_4 : List AR := [⟨some 8, .alloc 37 true [.int .i64 0, .int .i64 0, .int .i64 0, .int .i64 0], [], none⟩]
def r11_5 : List AR := [⟨some 9, .mov (.c (.int .i64 0)), [], none⟩]
def r11_6 : List AR := [⟨some 20, .mov (.t 9), [], none⟩,
  ⟨some 21, .mov (.t 7), [], none⟩,
  ⟨some 22, .lens (.t 21), [1], none⟩,
  ⟨some 23, .bin .lss (.t 20) (.t 22), [0, 2], none⟩]
def r11_7 : List AR := [⟨some 26, .mov (.t 7), [], none⟩,
  ⟨some 27, .mov (.t 7), [], none⟩,
  ⟨some 28, .mov (.t 9), [], none⟩,
  ⟨some 29, .iad 7 (.t 27) (.t 28), [1, 2], none⟩,
  ⟨some 30, .fad (.t 29) 0, [3], none⟩,
  ⟨some 31, .ld true 3 (.t 30), [4], none⟩,
  ⟨some 32, .call 33 [.t 26, .t 31], [0, 5], none⟩,
  ⟨some 33, .mov (.t 7), [], none⟩,
  ⟨some 34, .mov (.t 9), [], none⟩,
  ⟨some 35, .iad 7 (.t 33) (.t 34), [7, 8], none⟩,
  ⟨some 36, .fad (.t 35) 3, [9], none⟩,
  ⟨some 37, .ld true 4 (.t 36), [10], none⟩,
  ⟨some 38, .eqs true [.i, .i, .i, .i] (.t 32) (.t 37), [6, 11], none⟩]
def r11_8 : List AR := [⟨some 6, .mov (.c (.bool false)), [], none⟩]
def r11_9 : List AR := [⟨some 39, .ld true 4 (.t 8), [], none⟩,
  ⟨some 40, .mov (.t 7), [], none⟩,
  ⟨some 41, .mov (.t 9), [], none⟩,
  ⟨some 42, .iad 7 (.t 40) (.t 41), [1, 2], none⟩,
  ⟨some 43, .fad (.t 42) 3, [3], none⟩,
  ⟨some 44, .ld true 4 (.t 43), [4], none⟩,
  ⟨some 45, .call 15 [.t 39, .t 44], [0, 5], none⟩,
  ⟨none, .st 4 (.t 8) (.t 45), [6, 6, 0, 1, 2, 3, 4, 5, 6], none⟩]
def r11_10 : List AR := [⟨some 24, .mov (.t 9), [], none⟩,
  ⟨some 25, .bin .add (.t 24) (.c (.int .i64 1)), [0], none⟩,
  ⟨some 9, .mov (.t 25), [1, 0, 1], none⟩]
def r11_11 : List AR := [⟨some 10, .mov (.c .nils), [], none⟩,
  ⟨some 11, .mov (.c .nils), [0], none⟩]
def r11_12 : List AR := [⟨some 46, .mov (.t 10), [], none⟩,
  ⟨some 47, .mov (.t 7), [], none⟩,
  ⟨some 48, .app 41 7 80 [.str ⟨#[]⟩, .str ⟨#[]⟩, .str ⟨#[]⟩, .int .i64 0, .int .i64 0, .int .i64 0, .int .i64 0] (.t 46) (.t 47), [0, 1], none⟩,
  ⟨some 10, .mov (.t 48), [2, 2, 0, 1, 2], none⟩]
def r11_13 : List AR := [⟨some 49, .mov (.t 11), [], none⟩,
  ⟨some 50, .lens (.t 49), [0], none⟩,
  ⟨some 51, .mov (.t 2), [], none⟩,
  ⟨some 52, .bin .lss (.t 50) (.t 51), [1, 2], none⟩,
  ⟨some 53, .mov (.t 52), [3], none⟩,
  ⟨some 54, .mov (.t 10), [4], some (53, true)⟩,
  ⟨some 55, .lens (.t 54), [5, 4], some (53, true)⟩,
  ⟨some 56, .bin .gtr (.t 55) (.c (.int .i64 0)), [6, 4], some (53, true)⟩,
  ⟨some 57, .pick (.t 53) (.t 56) (.c (.bool false)), [4, 7], none⟩]
def r11_14 : List AR := [⟨some 12, .mov (.c (.int .i64 0)), [], none⟩]
def r11_15 : List AR := [⟨some 13, .mov (.c (.int .i64 1)), [], none⟩]
def r11_16 : List AR := [⟨some 58, .mov (.t 13), [], none⟩,
  ⟨some 59, .mov (.t 10), [], none⟩,
  ⟨some 60, .lens (.t 59), [1], none⟩,
  ⟨some 61, .bin .lss (.t 58) (.t 60), [0, 2], none⟩]
def r11_17 : List AR := [⟨some 64, .mov (.t 10), [], none⟩,
  ⟨some 65, .mov (.t 13), [], none⟩,
  ⟨some 66, .iad 7 (.t 64) (.t 65), [0, 1], none⟩,
  ⟨some 67, .fad (.t 66) 3, [2], none⟩,
  ⟨some 68, .fad (.t 67) 2, [3], none⟩,
  ⟨some 69, .ld false 1 (.t 68), [4], none⟩,
  ⟨some 70, .mov (.t 10), [], none⟩,
  ⟨some 71, .mov (.t 12), [], none⟩,
  ⟨some 72, .iad 7 (.t 70) (.t 71), [6, 7], none⟩,
  ⟨some 73, .fad (.t 72) 3, [8], none⟩,
  ⟨some 74, .fad (.t 73) 2, [9], none⟩,
  ⟨some 75, .ld false 1 (.t 74), [10], none⟩,
  ⟨some 76, .bin .gtr (.t 69) (.t 75), [5, 11], none⟩]
def r11_18 : List AR := [⟨some 77, .mov (.t 13), [], none⟩,
  ⟨some 12, .mov (.t 77), [0, 0], none⟩]
def r11_19 : List AR := [⟨some 62, .mov (.t 13), [], none⟩,
  ⟨some 63, .bin .add (.t 62) (.c (.int .i64 1)), [0], none⟩,
  ⟨some 13, .mov (.t 63), [1, 0, 1], none⟩]
def r11_20 : List AR := [⟨some 78, .mov (.t 11), [], none⟩,
  ⟨some 79, .mov (.t 10), [], none⟩,
  ⟨some 80, .mov (.t 12), [], none⟩,
  ⟨some 81, .iad 7 (.t 79) (.t 80), [1, 2], none⟩,
  ⟨some 82, .ld true 7 (.t 81), [3], none⟩,
  ⟨some 83, .bsl 41 7 1 [.str ⟨#[]⟩, .str ⟨#[]⟩, .str ⟨#[]⟩, .int .i64 0, .int .i64 0, .int .i64 0, .int .i64 0] [(0, .t 82)], [4], none⟩,
  ⟨some 84, .app 41 7 80 [.str ⟨#[]⟩, .str ⟨#[]⟩, .str ⟨#[]⟩, .int .i64 0, .int .i64 0, .int .i64 0, .int .i64 0] (.t 78) (.t 83), [0, 5], none⟩,
  ⟨some 11, .mov (.t 84), [6, 6, 0, 1, 2, 3, 4, 5, 6], none⟩]
def r11_21 : List AR := [⟨some 85, .bsl 41 7 0 [.str ⟨#[]⟩, .str ⟨#[]⟩, .str ⟨#[]⟩, .int .i64 0, .int .i64 0, .int .i64 0, .int .i64 0] [], [], none⟩,
  ⟨some 86, .mov (.t 10), [], none⟩,
  ⟨some 87, .mov (.t 12), [], none⟩,
  ⟨some 88, .slc 7 (.t 86) none (some (.t 87)) none, [1, 2], none⟩,
  ⟨some 89, .app 41 7 80 [.str ⟨#[]⟩, .str ⟨#[]⟩, .str ⟨#[]⟩, .int .i64 0, .int .i64 0, .int .i64 0, .int .i64 0] (.t 85) (.t 88), [0, 3], none⟩,
  ⟨some 90, .mov (.t 10), [], none⟩,
  ⟨some 91, .mov (.t 12), [], none⟩,
  ⟨some 92, .bin .add (.t 91) (.c (.int .i64 1)), [6], none⟩,
  ⟨some 93, .slc 7 (.t 90) (some (.t 92)) none none, [5, 7], none⟩,
  ⟨some 94, .app 41 7 80 [.str ⟨#[]⟩, .str ⟨#[]⟩, .str ⟨#[]⟩, .int .i64 0, .int .i64 0, .int .i64 0, .int .i64 0] (.t 89) (.t 93), [4, 8, 4], none⟩,
  ⟨some 10, .mov (.t 94), [9, 9, 0, 1, 2, 3, 4, 5, 6, 7, 8, 9], none⟩]
def r11_22 : List AR := [⟨some 95, .mov (.t 7), [], none⟩,
  ⟨some 96, .call 34 [.t 95], [0], none⟩,
  ⟨some 97, .ld true 4 (.t 8), [], none⟩,
  ⟨some 98, .eqs false [.i, .i, .i, .i] (.t 96) (.t 97), [1, 2], none⟩,
  ⟨some 99, .mov (.t 98), [3, 1], none⟩,
  ⟨some 100, .mov (.t 7), [4], some (99, true)⟩,
  ⟨some 101, .mov (.t 2), [4], some (99, true)⟩,
  ⟨some 102, .call 35 [.t 100, .t 101], [5, 6, 4, 4], some (99, true)⟩,
  ⟨some 103, .mov (.t 11), [4], some (99, true)⟩,
  ⟨some 104, .call 22 [.t 102, .t 103], [7, 8, 7, 4], some (99, true)⟩,
  ⟨some 105, .pick (.t 99) (.t 104) (.c (.bool false)), [4, 9], none⟩,
  ⟨some 106, .mov (.t 105), [10, 9], none⟩,
  ⟨some 107, .mov (.t 7), [11], some (106, true)⟩,
  ⟨some 108, .bld [.str ⟨#[]⟩, .str ⟨#[]⟩, .str ⟨#[]⟩] [(0, 1, .c (.str ⟨#[110, 111, 110, 101]⟩))], [11], some (106, true)⟩,
  ⟨some 109, .call 33 [.t 107, .t 108], [12, 13, 11, 11], some (106, true)⟩,
  ⟨some 110, .bld [.int .i64 0, .int .i64 0, .int .i64 0, .int .i64 0] [], [11], some (106, true)⟩,
  ⟨some 111, .eqs false [.i, .i, .i, .i] (.t 109) (.t 110), [14, 15, 11], some (106, true)⟩,
  ⟨some 112, .pick (.t 106) (.t 111) (.c (.bool false)), [11, 16], none⟩,
  ⟨some 6, .mov (.t 112), [17, 14, 0, 1, 2, 3, 4, 5, 6, 7, 8, 9, 10, 11, 12, 13, 14, 15, 16, 17], none⟩]
def c11 : ACode := .seq (.reg r11_0 false) (.seq (.seq (.reg r11_1 false) (.cond (.t 15) (.seq (.reg r11_2 false) (.ret)) (.skip))) (.seq (.reg r11_3 false) (.seq (.reg r11_4 false) (.seq (.seq (.reg r11_5 false) (.blk 0 (.loop (.seq (.seq (.reg r11_6 false) (.cond (.t 23) (.skip) (.exit 0))) (.seq (.blk 1 (.seq (.seq (.reg r11_7 true) (.cond (.t 38) (.seq (.reg r11_8 false) (.ret)) (.skip))) (.reg r11_9 true))) (.reg r11_10 false)))))) (.seq (.reg r11_11 false) (.seq (.reg r11_12 false) (.seq (.blk 2 (.loop (.seq (.seq (.reg r11_13 false) (.cond (.t 57) (.skip) (.exit 2))) (.blk 3 (.seq (.reg r11_14 false) (.seq (.seq (.reg r11_15 false) (.blk 4 (.loop (.seq (.seq (.reg r11_16 false) (.cond (.t 61) (.skip) (.exit 4))) (.seq (.blk 5 (.seq (.reg r11_17 true) (.cond (.t 76) (.reg r11_18 false) (.skip)))) (.reg r11_19 false)))))) (.seq (.reg r11_20 false) (.reg r11_21 true)))))))) (.seq (.reg r11_22 true) (.ret)))))))))
theorem body11 : Try.f11.body.map (comp Try.prog 113) = some c11 := by kernel_rfl
theorem res11 : allSome (Try.f11.results.toList.map (compRes Try.prog)) = some [.s 6] := by kernel_rfl
theorem cok11 {S : FSpec} (h : ∀ args K, S args K → args.all argOk = true ∧ args.length ≤ 113 ∧ AW Try.prog 113 (some ownP) c11 (initS args) (retPost [.s 6] args K)) : COK Try.prog 11 S := of_body Try.func11 Try.ntmps11 body11 res11 h

def J11_5 (N17577 : (Int × Int) → Prop) (v17563 : Int) (v17586 : Int) : Prop :=
  N17577 (v17586, (w64 (v17563 + 1)))

def L11_4 (v17414 : List TLine) (v17415 : List TLine) (N17504 : ((List TLine) × (List TLine)) → Prop) (v17562 : Int) (v17563 : Int) (N17577 : (Int × Int) → Prop) : Prop :=
  Cond (decide (v17563 < (v17414.length : Int))) (Idx v17414 v17563 fun x17589 => Idx v17414 v17562 fun x17590 => Cond (decide (x17589.total.duration > x17590.total.duration)) (J11_5 N17577 v17563 v17563) (J11_5 N17577 v17563 v17562)) (Idx v17414 v17562 fun x17592 => Fits ((v17415 ++ [x17592]).length * 80) (0 ≤ v17562 ∧ v17562 ≤ (v17414.length : Int) ∧ (0 ≤ (w64 (v17562 + 1)) ∧ (w64 (v17562 + 1)) ≤ (v17414.length : Int) ∧ (Fits (([] ++ (List.take (v17562.toNat - 0) (List.drop 0 v17414))).length * 80) (Fits ((([] ++ (List.take (v17562.toNat - 0) (List.drop 0 v17414))) ++ (List.take (v17414.length - (w64 (v17562 + 1)).toNat) (List.drop ((w64 (v17562 + 1)).toNat) v17414))).length * 80) (N17504 ((([] ++ (List.take (v17562.toNat - 0) (List.drop 0 v17414))) ++ (List.take (v17414.length - (w64 (v17562 + 1)).toNat) (List.drop ((w64 (v17562 + 1)).toNat) v17414))), (v17415 ++ [x17592]))))))))

def J11_6 (K : Bool → Prop) (v18210 : Bool) : Prop :=
  K v18210

def J11_3 (v17414 : List TLine) (v17415 : List TLine) (N17504 : ((List TLine) × (List TLine)) → Prop) (r16910 : (List TLine)) (v17017 : Int) (v17018 : Int) (v17019 : Int) (v17020 : Int) (n_11 : Int) (K : Bool → Prop) (v17506 : Bool) : Prop :=
  Cond v17506 (LoopW (fun (s : (Int × Int)) N17577 => L11_4 v17414 v17415 N17504 s.1 s.2 N17577) (0, 1)) (W34 r16910 fun r18211 => Cond (decide (r18211.spans = v17017) && (decide (r18211.errors = v17018) && (decide (r18211.duration = v17019) && (decide (r18211.traces = v17020) && true)))) (W35 r16910 n_11 fun r18212 => W22 r18212 v17415 fun r18213 => Cond r18213 (W33 r16910 (TGroup.mk (⟨#[110, 111, 110, 101]⟩ : ByteArray) (⟨#[]⟩ : ByteArray) (⟨#[]⟩ : ByteArray)) fun r18214 => J11_6 K (decide (r18214.spans = 0) && (decide (r18214.errors = 0) && (decide (r18214.duration = 0) && (decide (r18214.traces = 0) && true))))) (J11_6 K false)) (J11_6 K false))

def L11_2 (n_11 : Int) (r16910 : (List TLine)) (v17017 : Int) (v17018 : Int) (v17019 : Int) (v17020 : Int) (K : Bool → Prop) (v17414 : List TLine) (v17415 : List TLine) (N17504 : ((List TLine) × (List TLine)) → Prop) : Prop :=
  Cond (decide ((v17415.length : Int) < n_11)) (J11_3 v17414 v17415 N17504 r16910 v17017 v17018 v17019 v17020 n_11 K (decide ((v17414.length : Int) > 0))) (J11_3 v17414 v17415 N17504 r16910 v17017 v17018 v17019 v17020 n_11 K false)

def L11_1 (r16910 : (List TLine)) (K : Bool → Prop) (n_11 : Int) (v17017 : Int) (v17018 : Int) (v17019 : Int) (v17020 : Int) (v17021 : Int) (N17040 : (Int × Int × Int × Int × Int) → Prop) : Prop :=
  Cond (decide (v17021 < (r16910.length : Int))) (Idx r16910 v17021 fun x17056 => W33 r16910 x17056.group fun r17057 => Cond (!(decide (r17057.spans = x17056.total.spans) && (decide (r17057.errors = x17056.total.errors) && (decide (r17057.duration = x17056.total.duration) && (decide (r17057.traces = x17056.total.traces) && true))))) (K false) (W15 (TTotal.mk v17017 v17018 v17019 v17020) x17056.total fun r17058 => N17040 (r17058.spans, r17058.errors, r17058.duration, r17058.traces, (w64 (v17021 + 1))))) (Fits (r16910.length * 80) (LoopW (fun (s : ((List TLine) × (List TLine))) N17504 => L11_2 n_11 r16910 v17017 v17018 v17019 v17020 K s.1 s.2 N17504) (r16910, [])))

/-- sleuth/sleuthlaw25.EstimateSums -/
def W11 (s_11 : TStory) (weights_11 : TA28) (n_11 : Int) (K : Bool → Prop) : Prop :=
  W12  fun r2371 => Cond (!r2371) (K false) (W13 s_11 weights_11 fun r16909 => W23 r16909 3 fun r16910 => LoopW (fun (s : (Int × Int × Int × Int × Int)) N17040 => L11_1 r16910 K n_11 s.1 s.2.1 s.2.2.1 s.2.2.2.1 s.2.2.2.2 N17040) (0, 0, 0, 0, 0))

def S11 : FSpec := fun args K => ∃ (s_11 : TStory), ∃ (weights_11 : TA28), ∃ (n_11 : Int), ∃ (Kr : Bool → Prop), args = [.agg (List.map RC.d (TStory.enc s_11)), .agg (List.map RC.d (TA28.enc weights_11)), .one (.d (.int .i64 n_11))] ∧ W11 s_11 weights_11 n_11 Kr ∧ ∀ r, Kr r → K (.one (.d (.bool r))) []

theorem en11 : enters Try.prog 11 = true := by unfold enters; rw [Try.func11]; rfl
theorem cl11 (s_11 : TStory) (weights_11 : TA28) (n_11 : Int) {Kr : Bool → Prop} (h : W11 s_11 weights_11 n_11 Kr) : S11 [.agg (List.map RC.d (TStory.enc s_11)), .agg (List.map RC.d (TA28.enc weights_11)), .one (.d (.int .i64 n_11))] (fun rv rows => ∃ r, rv = (.one (.d (.bool r))) ∧ rows = [] ∧ Kr r) := ⟨s_11, weights_11, n_11, Kr, rfl, h, fun r hr => ⟨r, rfl, rfl, hr⟩⟩

theorem ok11 : COK Try.prog 11 S11 := by
  refine cok11 fun args K0 hS => ?_
  obtain ⟨s_11, weights_11, n_11, K, rfl, h, hK⟩ := hS
  refine ⟨by kernel_rfl, by simp, ?_⟩
  unfold W11 at h
  refine AW.sregL [(0, none), (1, none), (2, none)] (by kernel_rfl) ?_
  refine l_det (some 3) (.one (.ref 3 1 0 0), [(3, 1, .row true 27 7 [[.d (.sl (List.map TTree.enc s_11.trees)), .d (.int .i8 s_11.offsets.e0), .d (.int .i8 s_11.offsets.e1), .d (.int .i8 s_11.offsets.e2), .d (.int .i8 s_11.offsets.e3), .d (.sl (List.map TSync.enc s_11.syncs)), .d (.int .u8 s_11.wrong)]])]) (by kernel_rfl) ?_
  refine l_det (some 4) (.one (.ref 4 1 0 0), [(4, 1, .row true 28 3 [[.d (.int .u8 weights_11.e0), .d (.int .u8 weights_11.e1), .d (.int .u8 weights_11.e2)]])]) (by kernel_rfl) ?_
  refine l_ds 6 (.one (.d (.bool false))) ?_
  refine l_nil ?_
  refine AW.seq ?_
  refine AW.sregL [(0, none), (1, none)] (by kernel_rfl) ?_
  refine l_call ok12 en12 (some 14) [] [] [] [] (by kernel_rfl) ⟨by kernel_rfl, by kernel_rfl⟩ (by kernel_rfl) (by kernel_rfl) (by kernel_rfl) (cl12  h) ?_
  rintro hR _ _ ⟨r2371, rfl, rfl, h⟩
  refine ⟨false, (.one (.d (.bool r2371)), []), (fun hz => (by cases hz)), (ret_R hR (by kernel_rfl)), ?_⟩
  refine l_ds 15 (.one (.d (.bool (!r2371)))) ?_
  refine l_nil ?_
  refine AW.cond' (by kernel_rfl) h (fun h => ?_) (fun h => ?_)
  · refine AW.sregL [(0, none)] (by kernel_rfl) ?_
    refine l_ds 6 (.one (.d (.bool false))) ?_
    refine l_nil ?_
    refine AW.ret ?_
    refine q_ret ?_
    exact q_end [.one (.d (.bool false))] [false] [.one (.d (.bool false))] [] [] (by kernel_rfl) ⟨by kernel_rfl, by kernel_rfl⟩ (by kernel_rfl) (by kernel_rfl) (by kernel_rfl) (by kernel_rfl) (Eq.mp (by kernel_rfl) (hK false h)) (.inr rfl)
  · refine AW.skip ?_
    refine q_fall ?_
    refine AW.sregL [(0, none), (1, none), (2, none), (3, none), (4, none)] (by kernel_rfl) ?_
    refine l_ds 16 (.agg [.d (.sl (List.map TTree.enc s_11.trees)), .d (.int .i8 s_11.offsets.e0), .d (.int .i8 s_11.offsets.e1), .d (.int .i8 s_11.offsets.e2), .d (.int .i8 s_11.offsets.e3), .d (.sl (List.map TSync.enc s_11.syncs)), .d (.int .u8 s_11.wrong)]) ?_
    refine l_ds 17 (.agg [.d (.int .u8 weights_11.e0), .d (.int .u8 weights_11.e1), .d (.int .u8 weights_11.e2)]) ?_
    refine l_call ok13 en13 (some 18) [.agg [.d (.sl (List.map TTree.enc s_11.trees)), .d (.int .i8 s_11.offsets.e0), .d (.int .i8 s_11.offsets.e1), .d (.int .i8 s_11.offsets.e2), .d (.int .i8 s_11.offsets.e3), .d (.sl (List.map TSync.enc s_11.syncs)), .d (.int .u8 s_11.wrong)], .agg [.d (.int .u8 weights_11.e0), .d (.int .u8 weights_11.e1), .d (.int .u8 weights_11.e2)]] [false, false] [.agg (List.map RC.d [.sl (List.map TTree.enc s_11.trees), .int .i8 s_11.offsets.e0, .int .i8 s_11.offsets.e1, .int .i8 s_11.offsets.e2, .int .i8 s_11.offsets.e3, .sl (List.map TSync.enc s_11.syncs), .int .u8 s_11.wrong]), .agg (List.map RC.d [.int .u8 weights_11.e0, .int .u8 weights_11.e1, .int .u8 weights_11.e2])] [] (by kernel_rfl) ⟨by kernel_rfl, by kernel_rfl⟩ (by kernel_rfl) (by kernel_rfl) (by kernel_rfl) (cl13 s_11 weights_11 h) ?_
    rintro hR _ _ ⟨r16909, rfl, rfl, h⟩
    refine ⟨false, (.one (.view 18 1 0 ((List.map TTrace.enc r16909).length)), [(18, 1, .row true 53 3 (dmm (List.map TTrace.enc r16909)))]), (fun hz => (by cases hz)), (ret_R hR (by kernel_rfl)), ?_⟩
    refine l_call ok23 en23 (some 19) [.one (.view 18 1 0 ((List.map TTrace.enc r16909).length)), .one (.d (.int .i64 3))] [false, false] [.one (.d (.sl (List.map TTrace.enc r16909))), .one (.d (.int .i64 3))] [18] (by kernel_rfl) (ps_plain (pv_one (pf_view (E := 53) (sz := 3) (l := true) (List.map TTrace.enc r16909) (by kernel_rfl) (by kernel_rfl) rfl)) (ps_plain (pv_one pf_d) ps_nil)) (by kernel_rfl) (by kernel_rfl) (by kernel_rfl) (cl23 r16909 3 h) ?_
    rintro hR _ _ ⟨r16910, rfl, rfl, h⟩
    refine ⟨false, (.one (.d (.sl (List.map TLine.enc r16910))), [(18, 1, .row false 53 3 (dmm (List.map TTrace.enc r16909)))]), (fun hz => (by cases hz)), (ret_R hR (by kernel_rfl)), ?_⟩
    refine l_ds 7 (.one (.d (.sl (List.map TLine.enc r16910)))) ?_
    refine l_nil ?_
    refine AW.sregL [(0, none)] (by kernel_rfl) ?_
    refine l_det (some 8) (.one (.ref 8 1 0 0), [(8, 1, .row true 37 4 [[.d (.int .i64 0), .d (.int .i64 0), .d (.int .i64 0), .d (.int .i64 0)]])]) (by kernel_rfl) ?_
    refine l_nil ?_
    refine AW.seq ?_
    refine AW.sregL [(0, none)] (by kernel_rfl) ?_
    refine l_ds 9 (.one (.d (.int .i64 0))) ?_
    refine l_nil ?_
    refine AW.blk ?_
    refine AW.loopL (S := (Int × Int × Int × Int × Int)) (fun s => (fun (v17017 : Int) (v17018 : Int) (v17019 : Int) (v17020 : Int) (v17021 : Int) => [(2, .one (.d (.int .i64 n_11))), (7, .one (.d (.sl (List.map TLine.enc r16910)))), (8, .one (.ref 200001 0 0 0)), (9, .one (.d (.int .i64 v17021)))]) s.1 s.2.1 s.2.2.1 s.2.2.2.1 s.2.2.2.2) (fun s => (fun (v17017 : Int) (v17018 : Int) (v17019 : Int) (v17020 : Int) (v17021 : Int) => [(200001, .expl true 37 4 [[.d (.int .i64 v17017), .d (.int .i64 v17018), .d (.int .i64 v17019), .d (.int .i64 v17020)]])]) s.1 s.2.1 s.2.2.1 s.2.2.2.1 s.2.2.2.2) (fun (s : (Int × Int × Int × Int × Int)) N17040 => L11_1 r16910 K n_11 s.1 s.2.1 s.2.2.1 s.2.2.2.1 s.2.2.2.2 N17040) (N := fun s => LoopW (fun (s : (Int × Int × Int × Int × Int)) N17040 => L11_1 r16910 K n_11 s.1 s.2.1 s.2.2.1 s.2.2.2.1 s.2.2.2.2 N17040) s) (Lab.m (0, 0, 0, 0, 0) [(200001, some 8)] h) (fun _ h => h) ?_
    rintro ⟨v17017, v17018, v17019, v17020, v17021⟩ N17040 h
    have h : L11_1 r16910 K n_11 v17017 v17018 v17019 v17020 v17021 N17040 := h
    unfold L11_1 at h
    refine AW.seq ?_
    refine AW.sregL [(0, none), (1, none), (2, none), (3, none)] (by kernel_rfl) ?_
    refine l_ds 20 (.one (.d (.int .i64 v17021))) ?_
    refine l_ds 21 (.one (.d (.sl (List.map TLine.enc r16910)))) ?_
    refine l_spec (some 22) (.lens (.t 21)) (.one (.d (.int .i64 (r16910.length : Int))), []) (by kernel_rfl) (detA_none (d_lens_sl (enc := TLine.enc) r16910 (by kernel_rfl))) ?_
    refine l_ds 23 (.one (.d (.bool (decide (v17021 < (r16910.length : Int)))))) ?_
    refine l_nil ?_
    refine AW.cond' (by kernel_rfl) h (fun h => ?_) (fun h => ?_)
    · refine AW.skip ?_
      refine q_fall ?_
      refine AW.seq ?_
      refine AW.blk ?_
      refine AW.seq ?_
      refine AW.sregdL follows_mixed [[], [], [], [1, 2], [1, 2, 3], [1, 2, 3, 4], [0, 1, 2, 3, 4, 5], [], [], [7, 8], [7, 8, 9], [7, 8, 9, 10], [0, 1, 2, 3, 4, 5, 6, 7, 8, 9, 10, 11]] [(0, none), (1, none), (2, none), (3, none), (4, none), (5, none), (7, none), (8, none), (9, some [35]), (10, none), (11, some [37]), (6, some [32]), (12, none)] (by kernel_rfl) ?_
      refine l_ds 26 (.one (.d (.sl (List.map TLine.enc r16910)))) ?_
      refine l_ds 27 (.one (.d (.sl (List.map TLine.enc r16910)))) ?_
      refine l_ds 28 (.one (.d (.int .i64 v17021))) ?_
      obtain ⟨h161, x17056, h162, h⟩ := h
      refine l_spec (some 29) (.iad 7 (.t 27) (.t 28)) (.one (.d (.ptr [.str x17056.group.service, .str x17056.group.version, .str x17056.group.operation, .int .i64 x17056.total.spans, .int .i64 x17056.total.errors, .int .i64 x17056.total.duration, .int .i64 x17056.total.traces])), []) (by kernel_rfl) (detA_none (d_iad_sl (enc := TLine.enc) (k := .i64) r16910 x17056 (by kernel_rfl) (by kernel_rfl) h161 h162 rfl)) ?_
      refine l_ds 30 (.one (.d (.ptr [.str x17056.group.service, .str x17056.group.version, .str x17056.group.operation, .int .i64 x17056.total.spans, .int .i64 x17056.total.errors, .int .i64 x17056.total.duration, .int .i64 x17056.total.traces]))) ?_
      refine l_ds 31 (.agg [.d (.str x17056.group.service), .d (.str x17056.group.version), .d (.str x17056.group.operation)]) ?_
      refine l_ds 33 (.one (.d (.sl (List.map TLine.enc r16910)))) ?_
      refine l_ds 34 (.one (.d (.int .i64 v17021))) ?_
      refine l_spec (some 35) (.iad 7 (.t 33) (.t 34)) (.one (.d (.ptr [.str x17056.group.service, .str x17056.group.version, .str x17056.group.operation, .int .i64 x17056.total.spans, .int .i64 x17056.total.errors, .int .i64 x17056.total.duration, .int .i64 x17056.total.traces])), []) (by kernel_rfl) (detA_some (d_iad_sl (enc := TLine.enc) (k := .i64) r16910 x17056 (by kernel_rfl) (by kernel_rfl) h161 h162 rfl) (by kernel_rfl)) ?_
      refine l_ds 36 (.one (.d (.ptr [.int .i64 x17056.total.spans, .int .i64 x17056.total.errors, .int .i64 x17056.total.duration, .int .i64 x17056.total.traces]))) ?_
      refine l_ds 37 (.agg [.d (.int .i64 x17056.total.spans), .d (.int .i64 x17056.total.errors), .d (.int .i64 x17056.total.duration), .d (.int .i64 x17056.total.traces)]) ?_
      refine l_call ok33 en33 (some 32) [.one (.d (.sl (List.map TLine.enc r16910))), .agg [.d (.str x17056.group.service), .d (.str x17056.group.version), .d (.str x17056.group.operation)]] [false, false] [.one (.d (.sl (List.map TLine.enc r16910))), .agg (List.map RC.d [.str x17056.group.service, .str x17056.group.version, .str x17056.group.operation])] [] (by kernel_rfl) ⟨by kernel_rfl, by kernel_rfl⟩ (by kernel_rfl) (by kernel_rfl) (by kernel_rfl) (cl33 r16910 x17056.group h) ?_
      rintro hR _ _ ⟨r17057, rfl, rfl, h⟩
      refine ⟨false, (.agg [.d (.int .i64 r17057.spans), .d (.int .i64 r17057.errors), .d (.int .i64 r17057.duration), .d (.int .i64 r17057.traces)], []), (fun hz => (by cases hz)), (ret_R hR (by kernel_rfl)), ?_⟩
      refine l_ds 38 (.one (.d (.bool (!(decide (r17057.spans = x17056.total.spans) && (decide (r17057.errors = x17056.total.errors) && (decide (r17057.duration = x17056.total.duration) && (decide (r17057.traces = x17056.total.traces) && true)))))))) ?_
      refine l_nil ?_
      refine AW.cond' (by kernel_rfl) h (fun h => ?_) (fun h => ?_)
      · refine AW.sregL [(0, none)] (by kernel_rfl) ?_
        refine l_ds 6 (.one (.d (.bool false))) ?_
        refine l_nil ?_
        refine AW.ret ?_
        refine q_ret ?_
        refine q_bret ?_
        refine q_ret ?_
        refine q_ret ?_
        refine q_bret ?_
        refine q_ret ?_
        exact q_end [.one (.d (.bool false))] [false] [.one (.d (.bool false))] [] [] (by kernel_rfl) ⟨by kernel_rfl, by kernel_rfl⟩ (by kernel_rfl) (by kernel_rfl) (by kernel_rfl) (by kernel_rfl) (Eq.mp (by kernel_rfl) (hK false h)) (.inr rfl)
      · refine AW.skip ?_
        refine q_fall ?_
        refine AW.regdL follows_mixed [[], [], [], [1, 2], [1, 2, 3], [1, 2, 3, 4], [0, 1, 2, 3, 4, 5], [0, 1, 2, 3, 4, 5, 6]] [(0, none), (1, none), (2, none), (3, none), (4, none), (5, none), (6, none), (7, none)] (by kernel_rfl) ?_
        refine l_ds 39 (.agg [.d (.int .i64 v17017), .d (.int .i64 v17018), .d (.int .i64 v17019), .d (.int .i64 v17020)]) ?_
        refine l_ds 40 (.one (.d (.sl (List.map TLine.enc r16910)))) ?_
        refine l_ds 41 (.one (.d (.int .i64 v17021))) ?_
        refine l_spec (some 42) (.iad 7 (.t 40) (.t 41)) (.one (.d (.ptr [.str x17056.group.service, .str x17056.group.version, .str x17056.group.operation, .int .i64 x17056.total.spans, .int .i64 x17056.total.errors, .int .i64 x17056.total.duration, .int .i64 x17056.total.traces])), []) (by kernel_rfl) (detA_none (d_iad_sl (enc := TLine.enc) (k := .i64) r16910 x17056 (by kernel_rfl) (by kernel_rfl) h161 h162 rfl)) ?_
        refine l_ds 43 (.one (.d (.ptr [.int .i64 x17056.total.spans, .int .i64 x17056.total.errors, .int .i64 x17056.total.duration, .int .i64 x17056.total.traces]))) ?_
        refine l_ds 44 (.agg [.d (.int .i64 x17056.total.spans), .d (.int .i64 x17056.total.errors), .d (.int .i64 x17056.total.duration), .d (.int .i64 x17056.total.traces)]) ?_
        refine l_call ok15 en15 (some 45) [.agg [.d (.int .i64 v17017), .d (.int .i64 v17018), .d (.int .i64 v17019), .d (.int .i64 v17020)], .agg [.d (.int .i64 x17056.total.spans), .d (.int .i64 x17056.total.errors), .d (.int .i64 x17056.total.duration), .d (.int .i64 x17056.total.traces)]] [false, false] [.agg (List.map RC.d [.int .i64 v17017, .int .i64 v17018, .int .i64 v17019, .int .i64 v17020]), .agg (List.map RC.d [.int .i64 x17056.total.spans, .int .i64 x17056.total.errors, .int .i64 x17056.total.duration, .int .i64 x17056.total.traces])] [] (by kernel_rfl) ⟨by kernel_rfl, by kernel_rfl⟩ (by kernel_rfl) (by kernel_rfl) (by kernel_rfl) (cl15 (TTotal.mk v17017 v17018 v17019 v17020) x17056.total h) ?_
        rintro hR _ _ ⟨r17058, rfl, rfl, h⟩
        refine ⟨false, (.agg [.d (.int .i64 r17058.spans), .d (.int .i64 r17058.errors), .d (.int .i64 r17058.duration), .d (.int .i64 r17058.traces)], []), (fun hz => (by cases hz)), (ret_R hR (by kernel_rfl)), ?_⟩
        refine l_det none (.tup [], [(200001, 0, .row true 37 4 [[.d (.int .i64 r17058.spans), .d (.int .i64 r17058.errors), .d (.int .i64 r17058.duration), .d (.int .i64 r17058.traces)]])]) (by kernel_rfl) ?_
        refine l_nil ?_
        refine q_bfall ?_
        refine q_fall ?_
        refine AW.regL [(0, none), (1, none), (2, none)] (by kernel_rfl) ?_
        refine l_ds 24 (.one (.d (.int .i64 v17021))) ?_
        refine l_ds 25 (.one (.d (.int .i64 (w64 (v17021 + 1))))) ?_
        refine l_ds 9 (.one (.d (.int .i64 (w64 (v17021 + 1))))) ?_
        refine l_nil ?_
        refine q_fall ?_
        exact Lab.m (r17058.spans, r17058.errors, r17058.duration, r17058.traces, (w64 (v17021 + 1))) [(200001, some 200001)] h
    · refine AW.exit ?_
      refine q_exit ?_
      refine q_exit ?_
      refine q_bhere ?_
      refine q_fall ?_
      refine AW.sregL [(0, none), (1, none)] (by kernel_rfl) ?_
      refine l_ds 10 (.one (.nils)) ?_
      refine l_ds 11 (.one (.nils)) ?_
      refine l_nil ?_
      refine AW.sregL [(0, none), (1, none), (2, none), (3, none)] (by kernel_rfl) ?_
      refine l_ds 46 (.one (.nils)) ?_
      refine l_ds 47 (.one (.d (.sl (List.map TLine.enc r16910)))) ?_
      obtain ⟨h166, h⟩ := h
      refine l_spec (some 48) (.app 41 7 80 [.str ⟨#[]⟩, .str ⟨#[]⟩, .str ⟨#[]⟩, .int .i64 0, .int .i64 0, .int .i64 0, .int .i64 0] (.t 46) (.t 47)) (.one (.view 48 1 0 ((List.map TLine.enc r16910).length)), [(48, 1, .row true 41 7 (dmm (List.map TLine.enc r16910)))]) (by kernel_rfl) (detA_none (d_app_nil (enc := TLine.enc) (xc := .d (.sl (List.map TLine.enc r16910))) r16910 (by kernel_rfl) (by kernel_rfl) (e_sl r16910 (fun _ => rfl)) h166 (by kernel_rfl))) ?_
      refine l_ds 10 (.one (.view 48 1 0 ((List.map TLine.enc r16910).length))) ?_
      refine l_nil ?_
      refine AW.seq ?_
      refine AW.blk ?_
      refine AW.loopL (S := ((List TLine) × (List TLine))) (fun s => (fun (v17414 : List TLine) (v17415 : List TLine) => [(2, .one (.d (.int .i64 n_11))), (7, .one (.d (.sl (List.map TLine.enc r16910)))), (8, .one (.ref 200001 0 0 0)), (10, .one (.view 200002 0 0 ((List.map TLine.enc v17414).length))), (11, .one (.view 200003 0 0 ((List.map TLine.enc v17415).length)))]) s.1 s.2) (fun s => (fun (v17414 : List TLine) (v17415 : List TLine) => [(200001, .expl true 37 4 [[.d (.int .i64 v17017), .d (.int .i64 v17018), .d (.int .i64 v17019), .d (.int .i64 v17020)]]), (200002, .pure true 41 7 (List.map TLine.enc v17414)), (200003, .pure true 41 7 (List.map TLine.enc v17415))]) s.1 s.2) (fun (s : ((List TLine) × (List TLine))) N17504 => L11_2 n_11 r16910 v17017 v17018 v17019 v17020 K s.1 s.2 N17504) (N := fun s => LoopW (fun (s : ((List TLine) × (List TLine))) N17504 => L11_2 n_11 r16910 v17017 v17018 v17019 v17020 K s.1 s.2 N17504) s) (Lab.m (r16910, []) [(200001, some 200001), (200002, some 48), (200003, none)] h) (fun _ h => h) ?_
      rintro ⟨v17414, v17415⟩ N17504 h
      have h : L11_2 n_11 r16910 v17017 v17018 v17019 v17020 K v17414 v17415 N17504 := h
      unfold L11_2 at h
      refine AW.seq ?_
      refine AW.seqL (S := Bool) (fun s => (fun (v17506 : Bool) => [(2, .one (.d (.int .i64 n_11))), (7, .one (.d (.sl (List.map TLine.enc r16910)))), (8, .one (.ref 200001 0 0 0)), (10, .one (.view 200002 0 0 ((List.map TLine.enc v17414).length))), (11, .one (.view 200003 0 0 ((List.map TLine.enc v17415).length))), (57, .one (.d (.bool v17506)))]) s) (fun s => (fun (v17506 : Bool) => [(200001, .expl true 37 4 [[.d (.int .i64 v17017), .d (.int .i64 v17018), .d (.int .i64 v17019), .d (.int .i64 v17020)]]), (200002, .pure true 41 7 (List.map TLine.enc v17414)), (200003, .pure true 41 7 (List.map TLine.enc v17415))]) s) (fun s : Bool => J11_3 v17414 v17415 N17504 r16910 v17017 v17018 v17019 v17020 n_11 K s) ?_ ?_
      · refine AW.regL [(0, none), (1, none), (2, none), (3, none), (4, none), (5, none), (6, none), (7, none), (8, none)] (by kernel_rfl) ?_
        refine l_ds 49 (.one (.view 200003 0 0 ((List.map TLine.enc v17415).length))) ?_
        refine l_spec (some 50) (.lens (.t 49)) (.one (.d (.int .i64 (v17415.length : Int))), []) (by kernel_rfl) (detA_none (d_lens_v (enc := TLine.enc) (o := 200003) (g := 0) v17415 (by kernel_rfl))) ?_
        refine l_ds 51 (.one (.d (.int .i64 n_11))) ?_
        refine l_ds 52 (.one (.d (.bool (decide ((v17415.length : Int) < n_11))))) ?_
        refine l_ds 53 (.one (.d (.bool (decide ((v17415.length : Int) < n_11))))) ?_
        refine l_split (s := 53) (by kernel_rfl) h (fun h => ?_) (fun h => ?_)
        · refine l_ds 54 (.one (.view 200002 0 0 ((List.map TLine.enc v17414).length))) ?_
          refine l_spec (some 55) (.lens (.t 54)) (.one (.d (.int .i64 (v17414.length : Int))), []) (by kernel_rfl) (detA_none (d_lens_v (enc := TLine.enc) (o := 200002) (g := 0) v17414 (by kernel_rfl))) ?_
          refine l_ds 56 (.one (.d (.bool (decide ((v17414.length : Int) > 0))))) ?_
          refine l_ds 57 (.one (.d (.bool (decide ((v17414.length : Int) > 0))))) ?_
          refine l_nil ?_
          refine q_fall ?_
          exact Lab.m (decide ((v17414.length : Int) > 0)) [(200001, some 200001), (200002, some 200002), (200003, some 200003)] h
        · refine l_ds 54 (.tup []) ?_
          refine l_ds 55 (.tup []) ?_
          refine l_ds 56 (.tup []) ?_
          refine l_ds 57 (.one (.d (.bool false))) ?_
          refine l_nil ?_
          refine q_fall ?_
          exact Lab.m false [(200001, some 200001), (200002, some 200002), (200003, some 200003)] h
      · rintro v17506 h
        have h : J11_3 v17414 v17415 N17504 r16910 v17017 v17018 v17019 v17020 n_11 K v17506 := h
        unfold J11_3 at h
        refine AW.cond' (by kernel_rfl) h (fun h => ?_) (fun h => ?_)
        · refine AW.skip ?_
          refine q_fall ?_
          refine AW.blk ?_
          refine AW.sregL [(0, none)] (by kernel_rfl) ?_
          refine l_ds 12 (.one (.d (.int .i64 0))) ?_
          refine l_nil ?_
          refine AW.seq ?_
          refine AW.sregL [(0, none)] (by kernel_rfl) ?_
          refine l_ds 13 (.one (.d (.int .i64 1))) ?_
          refine l_nil ?_
          refine AW.blk ?_
          refine AW.loopL (S := (Int × Int)) (fun s => (fun (v17562 : Int) (v17563 : Int) => [(2, .one (.d (.int .i64 n_11))), (7, .one (.d (.sl (List.map TLine.enc r16910)))), (8, .one (.ref 200001 0 0 0)), (10, .one (.view 200002 0 0 ((List.map TLine.enc v17414).length))), (11, .one (.view 200003 0 0 ((List.map TLine.enc v17415).length))), (12, .one (.d (.int .i64 v17562))), (13, .one (.d (.int .i64 v17563)))]) s.1 s.2) (fun s => (fun (v17562 : Int) (v17563 : Int) => [(200001, .expl true 37 4 [[.d (.int .i64 v17017), .d (.int .i64 v17018), .d (.int .i64 v17019), .d (.int .i64 v17020)]]), (200002, .pure true 41 7 (List.map TLine.enc v17414)), (200003, .pure true 41 7 (List.map TLine.enc v17415))]) s.1 s.2) (fun (s : (Int × Int)) N17577 => L11_4 v17414 v17415 N17504 s.1 s.2 N17577) (N := fun s => LoopW (fun (s : (Int × Int)) N17577 => L11_4 v17414 v17415 N17504 s.1 s.2 N17577) s) (Lab.m (0, 1) [(200001, some 200001), (200002, some 200002), (200003, some 200003)] h) (fun _ h => h) ?_
          rintro ⟨v17562, v17563⟩ N17577 h
          have h : L11_4 v17414 v17415 N17504 v17562 v17563 N17577 := h
          unfold L11_4 at h
          refine AW.seq ?_
          refine AW.sregL [(0, none), (1, none), (2, none), (3, none)] (by kernel_rfl) ?_
          refine l_ds 58 (.one (.d (.int .i64 v17563))) ?_
          refine l_ds 59 (.one (.view 200002 0 0 ((List.map TLine.enc v17414).length))) ?_
          refine l_spec (some 60) (.lens (.t 59)) (.one (.d (.int .i64 (v17414.length : Int))), []) (by kernel_rfl) (detA_none (d_lens_v (enc := TLine.enc) (o := 200002) (g := 0) v17414 (by kernel_rfl))) ?_
          refine l_ds 61 (.one (.d (.bool (decide (v17563 < (v17414.length : Int)))))) ?_
          refine l_nil ?_
          refine AW.cond' (by kernel_rfl) h (fun h => ?_) (fun h => ?_)
          · refine AW.skip ?_
            refine q_fall ?_
            refine AW.seqL (S := Int) (fun s => (fun (v17586 : Int) => [(2, .one (.d (.int .i64 n_11))), (7, .one (.d (.sl (List.map TLine.enc r16910)))), (8, .one (.ref 200001 0 0 0)), (10, .one (.view 200002 0 0 ((List.map TLine.enc v17414).length))), (11, .one (.view 200003 0 0 ((List.map TLine.enc v17415).length))), (12, .one (.d (.int .i64 v17586))), (13, .one (.d (.int .i64 v17563)))]) s) (fun s => (fun (v17586 : Int) => [(200001, .expl true 37 4 [[.d (.int .i64 v17017), .d (.int .i64 v17018), .d (.int .i64 v17019), .d (.int .i64 v17020)]]), (200002, .pure true 41 7 (List.map TLine.enc v17414)), (200003, .pure true 41 7 (List.map TLine.enc v17415))]) s) (fun s : Int => J11_5 N17577 v17563 s) ?_ ?_
            · refine AW.blk ?_
              refine AW.sregdL follows_mixed [[], [], [0, 1], [0, 1, 2], [0, 1, 2, 3], [0, 1, 2, 3, 4], [], [], [6, 7], [6, 7, 8], [6, 7, 8, 9], [6, 7, 8, 9, 10], [0, 1, 2, 3, 4, 5, 6, 7, 8, 9, 10, 11]] [(0, none), (1, none), (2, none), (3, none), (4, none), (5, none), (6, none), (7, none), (8, none), (9, none), (10, none), (11, none), (12, none)] (by kernel_rfl) ?_
              refine l_ds 64 (.one (.view 200002 0 0 ((List.map TLine.enc v17414).length))) ?_
              refine l_ds 65 (.one (.d (.int .i64 v17563))) ?_
              obtain ⟨h1097, x17589, h1098, h⟩ := h
              refine l_spec (some 66) (.iad 7 (.t 64) (.t 65)) (.one (.ref 200002 0 v17563.toNat 0), []) (by kernel_rfl) (detA_none (d_iad_v (enc := TLine.enc) (k := .i64) (E := 41) (l := true) (ys := dmm (List.map TLine.enc v17414)) v17414 x17589 (by kernel_rfl) (by kernel_rfl) (by kernel_rfl) (by kernel_rfl) h1097 h1098)) ?_
              refine l_ds 67 (.one (.ref 200002 0 v17563.toNat 3)) ?_
              refine l_ds 68 (.one (.ref 200002 0 v17563.toNat 5)) ?_
              refine l_spec (some 69) (.ld false 1 (.t 68)) (.one (.d (.int .i64 x17589.total.duration)), []) (by kernel_rfl) (detA_none (d_ld_row (enc := TLine.enc) (o := 200002) (g := 0) (i := v17563.toNat) (off := 5) (E := 41) (sz := 7) (l := true) v17414 x17589 (by kernel_rfl) (by kernel_rfl) (by kernel_rfl) h1098 (by kernel_rfl))) ?_
              refine l_ds 70 (.one (.view 200002 0 0 ((List.map TLine.enc v17414).length))) ?_
              refine l_ds 71 (.one (.d (.int .i64 v17562))) ?_
              obtain ⟨h1099, x17590, h1100, h⟩ := h
              refine l_spec (some 72) (.iad 7 (.t 70) (.t 71)) (.one (.ref 200002 0 v17562.toNat 0), []) (by kernel_rfl) (detA_none (d_iad_v (enc := TLine.enc) (k := .i64) (E := 41) (l := true) (ys := dmm (List.map TLine.enc v17414)) v17414 x17590 (by kernel_rfl) (by kernel_rfl) (by kernel_rfl) (by kernel_rfl) h1099 h1100)) ?_
              refine l_ds 73 (.one (.ref 200002 0 v17562.toNat 3)) ?_
              refine l_ds 74 (.one (.ref 200002 0 v17562.toNat 5)) ?_
              refine l_spec (some 75) (.ld false 1 (.t 74)) (.one (.d (.int .i64 x17590.total.duration)), []) (by kernel_rfl) (detA_none (d_ld_row (enc := TLine.enc) (o := 200002) (g := 0) (i := v17562.toNat) (off := 5) (E := 41) (sz := 7) (l := true) v17414 x17590 (by kernel_rfl) (by kernel_rfl) (by kernel_rfl) h1100 (by kernel_rfl))) ?_
              refine l_ds 76 (.one (.d (.bool (decide (x17589.total.duration > x17590.total.duration))))) ?_
              refine l_nil ?_
              refine AW.cond' (by kernel_rfl) h (fun h => ?_) (fun h => ?_)
              · refine AW.regL [(0, none), (1, none)] (by kernel_rfl) ?_
                refine l_ds 77 (.one (.d (.int .i64 v17563))) ?_
                refine l_ds 12 (.one (.d (.int .i64 v17563))) ?_
                refine l_nil ?_
                refine q_bfall ?_
                refine q_fall ?_
                exact Lab.m v17563 [(200001, some 200001), (200002, some 200002), (200003, some 200003)] h
              · refine AW.skip ?_
                refine q_bfall ?_
                refine q_fall ?_
                exact Lab.m v17562 [(200001, some 200001), (200002, some 200002), (200003, some 200003)] h
            · rintro v17586 h
              have h : J11_5 N17577 v17563 v17586 := h
              unfold J11_5 at h
              refine AW.regL [(0, none), (1, none), (2, none)] (by kernel_rfl) ?_
              refine l_ds 62 (.one (.d (.int .i64 v17563))) ?_
              refine l_ds 63 (.one (.d (.int .i64 (w64 (v17563 + 1))))) ?_
              refine l_ds 13 (.one (.d (.int .i64 (w64 (v17563 + 1))))) ?_
              refine l_nil ?_
              refine q_fall ?_
              exact Lab.m (v17586, (w64 (v17563 + 1))) [(200001, some 200001), (200002, some 200002), (200003, some 200003)] h
          · refine AW.exit ?_
            refine q_exit ?_
            refine q_exit ?_
            refine q_bhere ?_
            refine q_fall ?_
            refine AW.sregL [(0, none), (1, none), (2, none), (3, none), (4, none), (5, none), (6, none), (7, none)] (by kernel_rfl) ?_
            refine l_ds 78 (.one (.view 200003 0 0 ((List.map TLine.enc v17415).length))) ?_
            refine l_ds 79 (.one (.view 200002 0 0 ((List.map TLine.enc v17414).length))) ?_
            refine l_ds 80 (.one (.d (.int .i64 v17562))) ?_
            obtain ⟨h1104, x17592, h1105, h⟩ := h
            refine l_spec (some 81) (.iad 7 (.t 79) (.t 80)) (.one (.ref 200002 0 v17562.toNat 0), []) (by kernel_rfl) (detA_none (d_iad_v (enc := TLine.enc) (k := .i64) (E := 41) (l := true) (ys := dmm (List.map TLine.enc v17414)) v17414 x17592 (by kernel_rfl) (by kernel_rfl) (by kernel_rfl) (by kernel_rfl) h1104 h1105)) ?_
            refine l_spec (some 82) (.ld true 7 (.t 81)) (.agg [.d (.str x17592.group.service), .d (.str x17592.group.version), .d (.str x17592.group.operation), .d (.int .i64 x17592.total.spans), .d (.int .i64 x17592.total.errors), .d (.int .i64 x17592.total.duration), .d (.int .i64 x17592.total.traces)], []) (by kernel_rfl) (detA_none (d_ld_row (enc := TLine.enc) (o := 200002) (g := 0) (i := v17562.toNat) (off := 0) (E := 41) (sz := 7) (l := true) v17414 x17592 (by kernel_rfl) (by kernel_rfl) (by kernel_rfl) h1105 (by kernel_rfl))) ?_
            refine l_det (some 83) (.one (.view 83 1 0 1), [(83, 1, .row true 41 7 [[.d (.str x17592.group.service), .d (.str x17592.group.version), .d (.str x17592.group.operation), .d (.int .i64 x17592.total.spans), .d (.int .i64 x17592.total.errors), .d (.int .i64 x17592.total.duration), .d (.int .i64 x17592.total.traces)]])]) (by kernel_rfl) ?_
            obtain ⟨h1106, h⟩ := h
            refine l_spec (some 84) (.app 41 7 80 [.str ⟨#[]⟩, .str ⟨#[]⟩, .str ⟨#[]⟩, .int .i64 0, .int .i64 0, .int .i64 0, .int .i64 0] (.t 78) (.t 83)) (.one (.view 200003 1 0 ((List.map TLine.enc (v17415 ++ [x17592])).length)), [(200003, 1, .row true 41 7 (dmm (List.map TLine.enc (v17415 ++ [x17592]))))]) (by kernel_rfl) (detA_none (d_app_v (enc := TLine.enc) (xc := .view 83 1 0 1) v17415 [x17592] (by kernel_rfl) (by kernel_rfl) (by kernel_rfl) (by kernel_rfl) (by kernel_rfl) h1106 (by kernel_rfl))) ?_
            refine l_ds 11 (.one (.view 200003 1 0 ((List.map TLine.enc (v17415 ++ [x17592])).length))) ?_
            refine l_nil ?_
            refine AW.regdL follows_mixed [[], [], [], [1, 2], [0, 1, 2, 3], [], [], [6], [5, 6, 7], [0, 1, 2, 3, 4, 5, 6, 7, 8], [0, 1, 2, 3, 4, 5, 6, 7, 8, 9]] [(1, none), (2, none), (3, some [88, 1200002]), (5, none), (6, none), (7, none), (8, some [93, 1200002]), (0, some [85]), (4, some [85, 89, 1200002]), (9, none), (10, none)] (by kernel_rfl) ?_
            refine l_ds 86 (.one (.view 200002 0 0 ((List.map TLine.enc v17414).length))) ?_
            refine l_ds 87 (.one (.d (.int .i64 v17562))) ?_
            obtain ⟨h1107, h1108, h⟩ := h
            refine l_spec (some 88) (.slc 7 (.t 86) none (some (.t 87)) none) (.one (.view 200002 0 0 (v17562.toNat - 0)), []) (by kernel_rfl) (detA_some (d_slc_vf (enc := TLine.enc) (E := 41) (l := true) (ys := dmm (List.map TLine.enc v17414)) (lo' := none) (hi' := (some v17562)) v17414 (by kernel_rfl) (by kernel_rfl) (by kernel_rfl) (by kernel_rfl) (by kernel_rfl) (b_hi h1107 h1108)) (by kernel_rfl)) ?_
            refine l_ds 90 (.one (.view 200002 0 0 ((List.map TLine.enc v17414).length))) ?_
            refine l_ds 91 (.one (.d (.int .i64 v17562))) ?_
            refine l_ds 92 (.one (.d (.int .i64 (w64 (v17562 + 1))))) ?_
            obtain ⟨h1110, h1111, h⟩ := h
            refine l_spec (some 93) (.slc 7 (.t 90) (some (.t 92)) none none) (.one (.view 200002 0 ((w64 (v17562 + 1)).toNat) (v17414.length - (w64 (v17562 + 1)).toNat)), []) (by kernel_rfl) (detA_some (d_slc_vf (enc := TLine.enc) (E := 41) (l := true) (ys := dmm (List.map TLine.enc v17414)) (lo' := (some (w64 (v17562 + 1)))) (hi' := none) v17414 (by kernel_rfl) (by kernel_rfl) (by kernel_rfl) (by kernel_rfl) (by kernel_rfl) (b_lo h1110 h1111)) (by kernel_rfl)) ?_
            refine l_det (some 85) (.one (.view 85 1 0 0), [(85, 1, .row true 41 7 [])]) (by kernel_rfl) ?_
            obtain ⟨h1113, h⟩ := h
            refine l_spec (some 89) (.app 41 7 80 [.str ⟨#[]⟩, .str ⟨#[]⟩, .str ⟨#[]⟩, .int .i64 0, .int .i64 0, .int .i64 0, .int .i64 0] (.t 85) (.t 88)) (.one (.view 85 2 0 ((List.map TLine.enc ([] ++ (List.take (v17562.toNat - 0) (List.drop 0 v17414)))).length)), [(85, 2, .row true 41 7 (dmm (List.map TLine.enc ([] ++ (List.take (v17562.toNat - 0) (List.drop 0 v17414))))))]) (by kernel_rfl) (detA_some (d_app_v (enc := TLine.enc) (xc := .view 200002 0 0 (v17562.toNat - 0)) [] (List.take (v17562.toNat - 0) (List.drop 0 v17414)) (by kernel_rfl) (by kernel_rfl) (by kernel_rfl) (by kernel_rfl) (e_part (E := 41) (l := true) v17414 (by kernel_rfl) (by kernel_rfl) (by simp only [List.length_map] at *; omega)) h1113 (by kernel_rfl)) (by kernel_rfl)) ?_
            obtain ⟨h1114, h⟩ := h
            refine l_spec (some 94) (.app 41 7 80 [.str ⟨#[]⟩, .str ⟨#[]⟩, .str ⟨#[]⟩, .int .i64 0, .int .i64 0, .int .i64 0, .int .i64 0] (.t 89) (.t 93)) (.one (.view 85 3 0 ((List.map TLine.enc (([] ++ (List.take (v17562.toNat - 0) (List.drop 0 v17414))) ++ (List.take (v17414.length - (w64 (v17562 + 1)).toNat) (List.drop ((w64 (v17562 + 1)).toNat) v17414)))).length)), [(85, 3, .row true 41 7 (dmm (List.map TLine.enc (([] ++ (List.take (v17562.toNat - 0) (List.drop 0 v17414))) ++ (List.take (v17414.length - (w64 (v17562 + 1)).toNat) (List.drop ((w64 (v17562 + 1)).toNat) v17414))))))]) (by kernel_rfl) (detA_none (d_app_v (enc := TLine.enc) (xc := .view 200002 0 ((w64 (v17562 + 1)).toNat) (v17414.length - (w64 (v17562 + 1)).toNat)) ([] ++ (List.take (v17562.toNat - 0) (List.drop 0 v17414))) (List.take (v17414.length - (w64 (v17562 + 1)).toNat) (List.drop ((w64 (v17562 + 1)).toNat) v17414)) (by kernel_rfl) (by kernel_rfl) (by kernel_rfl) (by kernel_rfl) (e_part (E := 41) (l := true) v17414 (by kernel_rfl) (by kernel_rfl) (by simp only [List.length_map] at *; omega)) h1114 (by kernel_rfl))) ?_
            refine l_ds 10 (.one (.view 85 3 0 ((List.map TLine.enc (([] ++ (List.take (v17562.toNat - 0) (List.drop 0 v17414))) ++ (List.take (v17414.length - (w64 (v17562 + 1)).toNat) (List.drop ((w64 (v17562 + 1)).toNat) v17414)))).length))) ?_
            refine l_nil ?_
            refine q_bfall ?_
            refine q_fall ?_
            exact Lab.m ((([] ++ (List.take (v17562.toNat - 0) (List.drop 0 v17414))) ++ (List.take (v17414.length - (w64 (v17562 + 1)).toNat) (List.drop ((w64 (v17562 + 1)).toNat) v17414))), (v17415 ++ [x17592])) [(200001, some 200001), (200002, some 85), (200003, some 200003)] h
        · refine AW.exit ?_
          refine q_exit ?_
          refine q_exit ?_
          refine q_bhere ?_
          refine q_fall ?_
          refine AW.seqL (S := Bool) (fun s => (fun (v18210 : Bool) => [(6, .one (.d (.bool v18210)))]) s) (fun s => (fun (v18210 : Bool) => []) s) (fun s : Bool => J11_6 K s) ?_ ?_
          · refine AW.regdL follows_mixed [[], [0], [], [0, 1, 2], [0, 1, 2, 3], [0, 1, 2, 3, 4], [0, 1, 2, 3, 4], [0, 1, 2, 3, 4, 5, 6], [0, 1, 2, 3, 4], [0, 1, 2, 3, 4, 5, 6, 7, 8], [0, 1, 2, 3, 4, 5, 6, 7, 8, 9], [0, 1, 2, 3, 4, 5, 6, 7, 8, 9, 10], [0, 1, 2, 3, 4, 5, 6, 7, 8, 9, 10, 11], [0, 1, 2, 3, 4, 5, 6, 7, 8, 9, 10, 11], [0, 1, 2, 3, 4, 5, 6, 7, 8, 9, 10, 11, 12, 13], [0, 1, 2, 3, 4, 5, 6, 7, 8, 9, 10, 11], [0, 1, 2, 3, 4, 5, 6, 7, 8, 9, 10, 11, 12, 13, 14, 15], [0, 1, 2, 3, 4, 5, 6, 7, 8, 9, 10, 11, 12, 13, 14, 15, 16], [0, 1, 2, 3, 4, 5, 6, 7, 8, 9, 10, 11, 12, 13, 14, 15, 16, 17]] [(0, none), (2, some [97, 1200001]), (1, some [96]), (3, none), (4, none), (5, none), (6, none), (8, none), (7, none), (9, none), (10, none), (11, none), (12, none), (13, none), (15, none), (14, none), (16, none), (17, none), (18, none)] (by kernel_rfl) ?_
            refine l_ds 95 (.one (.d (.sl (List.map TLine.enc r16910)))) ?_
            refine l_ds 97 (.agg [.d (.int .i64 v17017), .d (.int .i64 v17018), .d (.int .i64 v17019), .d (.int .i64 v17020)]) ?_
            refine l_call ok34 en34 (some 96) [.one (.d (.sl (List.map TLine.enc r16910)))] [false] [.one (.d (.sl (List.map TLine.enc r16910)))] [] (by kernel_rfl) ⟨by kernel_rfl, by kernel_rfl⟩ (by kernel_rfl) (by kernel_rfl) (by kernel_rfl) (cl34 r16910 h) ?_
            rintro hR _ _ ⟨r18211, rfl, rfl, h⟩
            refine ⟨false, (.agg [.d (.int .i64 r18211.spans), .d (.int .i64 r18211.errors), .d (.int .i64 r18211.duration), .d (.int .i64 r18211.traces)], []), (fun hz => (by cases hz)), (ret_R hR (by kernel_rfl)), ?_⟩
            refine l_ds 98 (.one (.d (.bool (decide (r18211.spans = v17017) && (decide (r18211.errors = v17018) && (decide (r18211.duration = v17019) && (decide (r18211.traces = v17020) && true))))))) ?_
            refine l_ds 99 (.one (.d (.bool (decide (r18211.spans = v17017) && (decide (r18211.errors = v17018) && (decide (r18211.duration = v17019) && (decide (r18211.traces = v17020) && true))))))) ?_
            refine l_split (s := 99) (by kernel_rfl) h (fun h => ?_) (fun h => ?_)
            · refine l_ds 100 (.one (.d (.sl (List.map TLine.enc r16910)))) ?_
              refine l_ds 101 (.one (.d (.int .i64 n_11))) ?_
              refine l_ds 103 (.one (.view 200003 0 0 ((List.map TLine.enc v17415).length))) ?_
              refine l_call ok35 en35 (some 102) [.one (.d (.sl (List.map TLine.enc r16910))), .one (.d (.int .i64 n_11))] [false, false] [.one (.d (.sl (List.map TLine.enc r16910))), .one (.d (.int .i64 n_11))] [] (by kernel_rfl) ⟨by kernel_rfl, by kernel_rfl⟩ (by kernel_rfl) (by kernel_rfl) (by kernel_rfl) (cl35 r16910 n_11 h) ?_
              rintro hR _ _ ⟨r18212, rfl, rfl, h⟩
              refine ⟨false, (.one (.d (.sl (List.map TLine.enc r18212))), []), (fun hz => (by cases hz)), (ret_R hR (by kernel_rfl)), ?_⟩
              refine l_call ok22 en22 (some 104) [.one (.d (.sl (List.map TLine.enc r18212))), .one (.view 200003 0 0 ((List.map TLine.enc v17415).length))] [false, false] [.one (.d (.sl (List.map TLine.enc r18212))), .one (.d (.sl (List.map TLine.enc v17415)))] [200003] (by kernel_rfl) (ps_plain (pv_one pf_d) (ps_plain (pv_one (pf_view (E := 41) (sz := 7) (l := true) (List.map TLine.enc v17415) (by kernel_rfl) (by kernel_rfl) rfl)) ps_nil)) (by kernel_rfl) (by kernel_rfl) (by kernel_rfl) (cl22 r18212 v17415 h) ?_
              rintro hR _ _ ⟨r18213, rfl, rfl, h⟩
              refine ⟨true, (.one (.d (.bool r18213)), []), (fun _ => (by kernel_rfl)), (by kernel_rfl), ?_⟩
              refine l_ds 105 (.one (.d (.bool r18213))) ?_
              refine l_ds 106 (.one (.d (.bool r18213))) ?_
              refine l_split (s := 106) (by kernel_rfl) h (fun h => ?_) (fun h => ?_)
              · refine l_ds 107 (.one (.d (.sl (List.map TLine.enc r16910)))) ?_
                refine l_ds 108 (.agg [.d (.str (⟨#[110, 111, 110, 101]⟩ : ByteArray)), .d (.str (⟨#[]⟩ : ByteArray)), .d (.str (⟨#[]⟩ : ByteArray))]) ?_
                refine l_ds 110 (.agg [.d (.int .i64 0), .d (.int .i64 0), .d (.int .i64 0), .d (.int .i64 0)]) ?_
                refine l_call ok33 en33 (some 109) [.one (.d (.sl (List.map TLine.enc r16910))), .agg [.d (.str (⟨#[110, 111, 110, 101]⟩ : ByteArray)), .d (.str (⟨#[]⟩ : ByteArray)), .d (.str (⟨#[]⟩ : ByteArray))]] [false, false] [.one (.d (.sl (List.map TLine.enc r16910))), .agg (List.map RC.d [.str (⟨#[110, 111, 110, 101]⟩ : ByteArray), .str (⟨#[]⟩ : ByteArray), .str (⟨#[]⟩ : ByteArray)])] [] (by kernel_rfl) ⟨by kernel_rfl, by kernel_rfl⟩ (by kernel_rfl) (by kernel_rfl) (by kernel_rfl) (cl33 r16910 (TGroup.mk (⟨#[110, 111, 110, 101]⟩ : ByteArray) (⟨#[]⟩ : ByteArray) (⟨#[]⟩ : ByteArray)) h) ?_
                rintro hR _ _ ⟨r18214, rfl, rfl, h⟩
                refine ⟨false, (.agg [.d (.int .i64 r18214.spans), .d (.int .i64 r18214.errors), .d (.int .i64 r18214.duration), .d (.int .i64 r18214.traces)], []), (fun hz => (by cases hz)), (ret_R hR (by kernel_rfl)), ?_⟩
                refine l_ds 111 (.one (.d (.bool (decide (r18214.spans = 0) && (decide (r18214.errors = 0) && (decide (r18214.duration = 0) && (decide (r18214.traces = 0) && true))))))) ?_
                refine l_ds 112 (.one (.d (.bool (decide (r18214.spans = 0) && (decide (r18214.errors = 0) && (decide (r18214.duration = 0) && (decide (r18214.traces = 0) && true))))))) ?_
                refine l_ds 6 (.one (.d (.bool (decide (r18214.spans = 0) && (decide (r18214.errors = 0) && (decide (r18214.duration = 0) && (decide (r18214.traces = 0) && true))))))) ?_
                refine l_nil ?_
                refine q_fall ?_
                exact Lab.m (decide (r18214.spans = 0) && (decide (r18214.errors = 0) && (decide (r18214.duration = 0) && (decide (r18214.traces = 0) && true)))) [] h
              · refine l_ds 107 (.tup []) ?_
                refine l_ds 108 (.tup []) ?_
                refine l_ds 110 (.tup []) ?_
                refine l_skip (some 109) (by kernel_rfl) (by kernel_rfl) (by kernel_rfl) ?_
                refine l_ds 111 (.tup []) ?_
                refine l_ds 112 (.one (.d (.bool false))) ?_
                refine l_ds 6 (.one (.d (.bool false))) ?_
                refine l_nil ?_
                refine q_fall ?_
                exact Lab.m false [] h
            · refine l_ds 100 (.tup []) ?_
              refine l_ds 101 (.tup []) ?_
              refine l_ds 103 (.tup []) ?_
              refine l_skip (some 102) (by kernel_rfl) (by kernel_rfl) (by kernel_rfl) ?_
              refine l_skip (some 104) (by kernel_rfl) (by kernel_rfl) (by kernel_rfl) ?_
              refine l_ds 105 (.one (.d (.bool false))) ?_
              refine l_ds 106 (.one (.d (.bool false))) ?_
              refine l_ds 107 (.tup []) ?_
              refine l_ds 108 (.tup []) ?_
              refine l_ds 110 (.tup []) ?_
              refine l_skip (some 109) (by kernel_rfl) (by kernel_rfl) (by kernel_rfl) ?_
              refine l_ds 111 (.tup []) ?_
              refine l_ds 112 (.one (.d (.bool false))) ?_
              refine l_ds 6 (.one (.d (.bool false))) ?_
              refine l_nil ?_
              refine q_fall ?_
              exact Lab.m false [] h
          · rintro v18210 h
            have h : J11_6 K v18210 := h
            unfold J11_6 at h
            refine AW.ret ?_
            exact q_end [.one (.d (.bool v18210))] [false] [.one (.d (.bool v18210))] [] [] (by kernel_rfl) ⟨by kernel_rfl, by kernel_rfl⟩ (by kernel_rfl) (by kernel_rfl) (by kernel_rfl) (by kernel_rfl) (Eq.mp (by kernel_rfl) (hK v18210 h)) (.inr rfl)
end Go.Proofs.Ytnpdeecoejabgaa
