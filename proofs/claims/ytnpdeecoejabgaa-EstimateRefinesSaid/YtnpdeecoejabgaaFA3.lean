/- Go functions: their shallow forms, and that they keep their contracts. Printed by a program of mine (gs.py). -/
import Derived.Test.YtnpdeecoejabgaaFA2
set_option maxRecDepth 100000
set_option linter.unusedVariables false
set_option linter.unusedSimpArgs false
namespace Go.Proofs.Ytnpdeecoejabgaa
open Go Go.RowKit

def r80_0 : List AR := [⟨some 10, .mov (.c (.bool true)), [], none⟩]
def r80_1 : List AR := [⟨some 11, .mov (.c (.bool true)), [], none⟩]
def r80_2 : List AR := [⟨some 21, .mov (.t 2), [], none⟩,
  ⟨some 22, .mov (.t 1), [], none⟩,
  ⟨some 23, .bin .sub (.t 21) (.t 22), [0, 1], none⟩,
  ⟨some 12, .mov (.t 23), [2, 0, 1, 2], none⟩]
def r80_3 : List AR := [⟨some 24, .mov (.t 12), [], none⟩,
  ⟨some 25, .bin .leq (.t 24) (.c (.int .i64 12)), [0], none⟩]
def r80_4 : List AR := [⟨some 26, .mov (.t 0), [], none⟩,
  ⟨some 27, .mov (.t 1), [], none⟩,
  ⟨some 28, .mov (.t 2), [], none⟩,
  ⟨some 29, .mov (.t 4), [], none⟩,
  ⟨some 30, .call 88 [.t 26, .t 27, .t 28, .t 29], [0, 1, 2, 3], none⟩]
def r80_5 : List AR := [⟨some 31, .mov (.t 3), [], none⟩,
  ⟨some 32, .bin .eql (.t 31) (.c (.int .i64 0)), [0], none⟩]
def r80_6 : List AR := [⟨some 33, .mov (.t 0), [], none⟩,
  ⟨some 34, .mov (.t 1), [], none⟩,
  ⟨some 35, .mov (.t 2), [], none⟩,
  ⟨some 36, .mov (.t 4), [], none⟩,
  ⟨some 37, .call 90 [.t 33, .t 34, .t 35, .t 36], [0, 1, 2, 3], none⟩]
def r80_7 : List AR := [⟨some 38, .mov (.t 10), [], none⟩,
  ⟨some 39, .un .not (.t 38), [0], none⟩]
def r80_8 : List AR := [⟨some 40, .mov (.t 0), [], none⟩,
  ⟨some 41, .mov (.t 1), [], none⟩,
  ⟨some 42, .mov (.t 2), [], none⟩,
  ⟨some 43, .mov (.t 4), [], none⟩,
  ⟨some 44, .call 91 [.t 40, .t 41, .t 42, .t 43], [0, 1, 2, 3], none⟩]
def r80_9 : List AR := [⟨some 45, .mov (.t 3), [], none⟩,
  ⟨some 46, .bin .sub (.t 45) (.c (.int .i64 1)), [0], none⟩,
  ⟨some 3, .mov (.t 46), [1, 0, 1], none⟩]
def r80_10 : List AR := [⟨some 48, .mov (.t 0), [], none⟩,
  ⟨some 49, .mov (.t 1), [], none⟩,
  ⟨some 50, .mov (.t 2), [], none⟩,
  ⟨some 51, .mov (.t 4), [], none⟩,
  ⟨some 52, .call 92 [.t 48, .t 49, .t 50, .t 51], [0, 1, 2, 3], none⟩,
  ⟨some 47, .mov (.t 52), [4], none⟩,
  ⟨some 53, .ext (.t 47) 0, [5], none⟩,
  ⟨some 54, .ext (.t 47) 1, [5], none⟩,
  ⟨some 13, .mov (.t 53), [6, 4, 0, 1, 2, 3, 4, 5, 6], none⟩,
  ⟨some 14, .mov (.t 54), [7, 8, 0, 1, 2, 3, 4, 5, 6, 7, 8], none⟩]
def r80_11 : List AR := [⟨some 55, .mov (.t 14), [], none⟩,
  ⟨some 56, .bin .eql (.t 55) (.c (.int .i64 2)), [0], none⟩]
def r80_12 : List AR := [⟨some 57, .mov (.t 0), [], none⟩,
  ⟨some 58, .mov (.t 1), [], none⟩,
  ⟨some 59, .mov (.t 2), [], none⟩,
  ⟨some 60, .mov (.t 4), [], none⟩,
  ⟨some 61, .call 93 [.t 57, .t 58, .t 59, .t 60], [0, 1, 2, 3], none⟩]
def r80_13 : List AR := [⟨some 62, .mov (.t 2), [], none⟩,
  ⟨some 63, .bin .sub (.t 62) (.c (.int .i64 1)), [0], none⟩,
  ⟨some 64, .mov (.t 13), [], none⟩,
  ⟨some 65, .mov (.t 1), [], none⟩,
  ⟨some 66, .bin .sub (.t 64) (.t 65), [2, 3], none⟩,
  ⟨some 67, .bin .sub (.t 63) (.t 66), [1, 4], none⟩,
  ⟨some 13, .mov (.t 67), [5, 0, 1, 2, 3, 4, 5], none⟩]
def r80_14 : List AR := [⟨some 14, .mov (.c (.int .i64 1)), [], none⟩]
def r80_15 : List AR := [⟨some 68, .mov (.t 10), [], none⟩,
  ⟨some 69, .mov (.t 68), [0], none⟩,
  ⟨some 70, .mov (.t 11), [1], some (69, true)⟩,
  ⟨some 71, .pick (.t 69) (.t 70) (.c (.bool false)), [1, 2], none⟩,
  ⟨some 72, .mov (.t 71), [3, 1], none⟩,
  ⟨some 73, .mov (.t 14), [4], some (72, true)⟩,
  ⟨some 74, .bin .eql (.t 73) (.c (.int .i64 1)), [5, 4], some (72, true)⟩,
  ⟨some 75, .pick (.t 72) (.t 74) (.c (.bool false)), [4, 6], none⟩]
def r80_16 : List AR := [⟨some 76, .mov (.t 0), [], none⟩,
  ⟨some 77, .mov (.t 1), [], none⟩,
  ⟨some 78, .mov (.t 2), [], none⟩,
  ⟨some 79, .mov (.t 4), [], none⟩,
  ⟨some 80, .call 94 [.t 76, .t 77, .t 78, .t 79], [0, 1, 2, 3], none⟩]
def r80_17 : List AR := [⟨some 81, .mov (.t 1), [], none⟩,
  ⟨some 82, .bin .gtr (.t 81) (.c (.int .i64 0)), [0], none⟩,
  ⟨some 83, .mov (.t 82), [1], none⟩,
  ⟨some 84, .mov (.t 4), [2], some (83, true)⟩,
  ⟨some 85, .mov (.t 0), [2], some (83, true)⟩,
  ⟨some 86, .mov (.t 1), [2], some (83, true)⟩,
  ⟨some 87, .bin .sub (.t 86) (.c (.int .i64 1)), [5, 2], some (83, true)⟩,
  ⟨some 88, .iad 7 (.t 85) (.t 87), [4, 6, 2], some (83, true)⟩,
  ⟨some 89, .ld true 7 (.t 88), [7, 2], some (83, true)⟩,
  ⟨some 90, .mov (.t 0), [2], some (83, true)⟩,
  ⟨some 91, .mov (.t 13), [2], some (83, true)⟩,
  ⟨some 92, .iad 7 (.t 90) (.t 91), [9, 10, 2], some (83, true)⟩,
  ⟨some 93, .ld true 7 (.t 92), [11, 2], some (83, true)⟩,
  ⟨some 94, .callv (.t 84) [.t 89, .t 93], [3, 8, 12, 2, 2], some (83, true)⟩,
  ⟨some 95, .bin .lss (.t 94) (.c (.int .i64 0)), [13, 2], some (83, true)⟩,
  ⟨some 96, .un .not (.t 95), [14, 2], some (83, true)⟩,
  ⟨some 97, .pick (.t 83) (.t 96) (.c (.bool false)), [2, 15], none⟩]
def r80_18 : List AR := [⟨some 98, .mov (.t 0), [], none⟩,
  ⟨some 99, .mov (.t 1), [], none⟩,
  ⟨some 100, .mov (.t 2), [], none⟩,
  ⟨some 101, .mov (.t 13), [], none⟩,
  ⟨some 102, .mov (.t 4), [], none⟩,
  ⟨some 103, .call 95 [.t 98, .t 99, .t 100, .t 101, .t 102], [0, 1, 2, 3, 4], none⟩,
  ⟨some 15, .mov (.t 103), [5, 5, 0, 1, 2, 3, 4, 5], none⟩]
def r80_19 : List AR := [⟨some 104, .mov (.t 15), [], none⟩,
  ⟨some 1, .mov (.t 104), [0, 0], none⟩]
def r80_20 : List AR := [⟨some 106, .mov (.t 0), [], none⟩,
  ⟨some 107, .mov (.t 1), [], none⟩,
  ⟨some 108, .mov (.t 2), [], none⟩,
  ⟨some 109, .mov (.t 13), [], none⟩,
  ⟨some 110, .mov (.t 4), [], none⟩,
  ⟨some 111, .call 96 [.t 106, .t 107, .t 108, .t 109, .t 110], [0, 1, 2, 3, 4], none⟩,
  ⟨some 105, .mov (.t 111), [5], none⟩,
  ⟨some 112, .ext (.t 105) 0, [6], none⟩,
  ⟨some 113, .ext (.t 105) 1, [6], none⟩,
  ⟨some 16, .mov (.t 112), [7, 5, 0, 1, 2, 3, 4, 5, 6, 7], none⟩,
  ⟨some 17, .mov (.t 113), [8, 9, 0, 1, 2, 3, 4, 5, 6, 7, 8, 9], none⟩]
def r80_21 : List AR := [⟨some 114, .mov (.t 17), [], none⟩,
  ⟨some 11, .mov (.t 114), [0, 0], none⟩]
def r80_22 : List AR := [⟨some 115, .mov (.t 16), [], none⟩,
  ⟨some 116, .mov (.t 1), [], none⟩,
  ⟨some 117, .bin .sub (.t 115) (.t 116), [0, 1], none⟩,
  ⟨some 118, .mov (.t 2), [], none⟩,
  ⟨some 119, .mov (.t 16), [], none⟩,
  ⟨some 120, .bin .sub (.t 118) (.t 119), [3, 4], none⟩,
  ⟨some 18, .mov (.t 117), [2, 0, 1, 2], none⟩,
  ⟨some 19, .mov (.t 120), [5, 6, 0, 1, 2, 3, 4, 5, 6], none⟩]
def r80_23 : List AR := [⟨some 121, .mov (.t 12), [], none⟩,
  ⟨some 122, .bin .quo (.t 121) (.c (.int .i64 8)), [0], none⟩,
  ⟨some 20, .mov (.t 122), [1, 0, 1], none⟩]
def r80_24 : List AR := [⟨some 123, .mov (.t 18), [], none⟩,
  ⟨some 124, .mov (.t 19), [], none⟩,
  ⟨some 125, .bin .lss (.t 123) (.t 124), [0, 1], none⟩]
def r80_25 : List AR := [⟨some 126, .mov (.t 18), [], none⟩,
  ⟨some 127, .mov (.t 20), [], none⟩,
  ⟨some 128, .bin .geq (.t 126) (.t 127), [0, 1], none⟩,
  ⟨some 10, .mov (.t 128), [2, 0, 1, 2], none⟩]
def r80_26 : List AR := [⟨some 129, .mov (.t 0), [], none⟩,
  ⟨some 130, .mov (.t 1), [], none⟩,
  ⟨some 131, .mov (.t 16), [], none⟩,
  ⟨some 132, .mov (.t 3), [], none⟩,
  ⟨some 133, .mov (.t 4), [], none⟩,
  ⟨some 134, .call 80 [.t 129, .t 130, .t 131, .t 132, .t 133], [0, 1, 2, 3, 4], none⟩]
def r80_27 : List AR := [⟨some 135, .mov (.t 16), [], none⟩,
  ⟨some 136, .bin .add (.t 135) (.c (.int .i64 1)), [0], none⟩,
  ⟨some 1, .mov (.t 136), [1, 0, 1], none⟩]
def r80_28 : List AR := [⟨some 137, .mov (.t 19), [], none⟩,
  ⟨some 138, .mov (.t 20), [], none⟩,
  ⟨some 139, .bin .geq (.t 137) (.t 138), [0, 1], none⟩,
  ⟨some 10, .mov (.t 139), [2, 0, 1, 2], none⟩]
def r80_29 : List AR := [⟨some 140, .mov (.t 0), [], none⟩,
  ⟨some 141, .mov (.t 16), [], none⟩,
  ⟨some 142, .bin .add (.t 141) (.c (.int .i64 1)), [1], none⟩,
  ⟨some 143, .mov (.t 2), [], none⟩,
  ⟨some 144, .mov (.t 3), [], none⟩,
  ⟨some 145, .mov (.t 4), [], none⟩,
  ⟨some 146, .call 80 [.t 140, .t 142, .t 143, .t 144, .t 145], [0, 2, 3, 4, 5], none⟩]
def r80_30 : List AR := [⟨some 147, .mov (.t 16), [], none⟩,
  ⟨some 2, .mov (.t 147), [0, 0], none⟩]
def c80 : ACode := .seq (.reg r80_0 false) (.seq (.reg r80_1 false) (.blk 0 (.loop (.blk 1 (.seq (.reg r80_2 false) (.seq (.seq (.reg r80_3 false) (.cond (.t 25) (.seq (.reg r80_4 false) (.ret)) (.skip))) (.seq (.seq (.reg r80_5 false) (.cond (.t 32) (.seq (.reg r80_6 false) (.ret)) (.skip))) (.seq (.seq (.reg r80_7 false) (.cond (.t 39) (.seq (.reg r80_8 false) (.reg r80_9 false)) (.skip))) (.seq (.reg r80_10 false) (.seq (.seq (.reg r80_11 false) (.cond (.t 56) (.seq (.reg r80_12 false) (.seq (.reg r80_13 false) (.reg r80_14 false))) (.skip))) (.seq (.seq (.reg r80_15 false) (.cond (.t 75) (.seq (.reg r80_16 false) (.cond (.t 80) (.ret) (.skip))) (.skip))) (.seq (.seq (.reg r80_17 true) (.cond (.t 97) (.seq (.reg r80_18 false) (.seq (.reg r80_19 false) (.exit 1))) (.skip))) (.seq (.reg r80_20 false) (.seq (.reg r80_21 false) (.seq (.reg r80_22 false) (.seq (.reg r80_23 false) (.seq (.reg r80_24 false) (.cond (.t 125) (.seq (.reg r80_25 false) (.seq (.reg r80_26 false) (.reg r80_27 false))) (.seq (.reg r80_28 false) (.seq (.reg r80_29 false) (.reg r80_30 false)))))))))))))))))))))
theorem body80 : Try.f80.body.map (comp Try.prog 148) = some c80 := by kernel_rfl
theorem res80 : allSome (Try.f80.results.toList.map (compRes Try.prog)) = some [] := by kernel_rfl
theorem cok80 {S : FSpec} (h : ∀ args K, S args K → args.all argOk = true ∧ args.length ≤ 148 ∧ AW Try.prog 148 (some ownP) c80 (initS args) (retPost [] args K)) : COK Try.prog 80 S := of_body Try.func80 Try.ntmps80 body80 res80 h

def L80c66_1 (b_80c66 : Int) (a_80c66 : Int) (data_80c66 : List TLine) (K : (List TLine) → Prop) (N3828 : Unit → Prop) : Prop :=
  (decide ((w64 (b_80c66 - a_80c66)) ≤ 12)) = true ∧ (W88c66 data_80c66 a_80c66 b_80c66 fun r3832 => r3832.length = data_80c66.length ∧ K r3832)

/-- slices.pdqsortCmpFunc[sleuth/estimate.Line] -/
def W80c66 (data_80c66 : List TLine) (a_80c66 : Int) (b_80c66 : Int) (limit_80c66 : Int) (K : (List TLine) → Prop) : Prop :=
  LoopW (fun (s : Unit) N3828 => L80c66_1 b_80c66 a_80c66 data_80c66 K  N3828) ()

def S80c66 : FSpec := fun args K => ∃ (data_80c66 : List TLine), ∃ (a_80c66 : Int), ∃ (b_80c66 : Int), ∃ (limit_80c66 : Int), ∃ (Kr : (List TLine) → Prop), args = [.one (.own 41 7 (List.map TLine.enc data_80c66)), .one (.d (.int .i64 a_80c66)), .one (.d (.int .i64 b_80c66)), .one (.d (.int .i64 limit_80c66)), .one (.d (.fn 66 []))] ∧ W80c66 data_80c66 a_80c66 b_80c66 limit_80c66 Kr ∧ ∀ r, r.length = data_80c66.length → Kr r → K (.tup []) [List.map TLine.enc r]

theorem en80 : enters Try.prog 80 = true := by unfold enters; rw [Try.func80]; rfl
theorem cl80c66 (data_80c66 : List TLine) (a_80c66 : Int) (b_80c66 : Int) (limit_80c66 : Int) {Kr : (List TLine) → Prop} (h : W80c66 data_80c66 a_80c66 b_80c66 limit_80c66 Kr) : S80c66 [.one (.own 41 7 (List.map TLine.enc data_80c66)), .one (.d (.int .i64 a_80c66)), .one (.d (.int .i64 b_80c66)), .one (.d (.int .i64 limit_80c66)), .one (.d (.fn 66 []))] (fun rv rows => ∃ r, rv = (.tup []) ∧ rows = [List.map TLine.enc r] ∧ r.length = data_80c66.length ∧ Kr r) := ⟨data_80c66, a_80c66, b_80c66, limit_80c66, Kr, rfl, h, fun r hl hr => ⟨r, rfl, rfl, hl, hr⟩⟩

theorem ok80c66 : COK Try.prog 80 S80c66 := by
  refine cok80 fun args K0 hS => ?_
  obtain ⟨data_80c66, a_80c66, b_80c66, limit_80c66, K, rfl, h, hK⟩ := hS
  refine ⟨by kernel_rfl, by simp, ?_⟩
  unfold W80c66 at h
  refine AW.sregL [(0, none)] (by kernel_rfl) ?_
  refine l_det (some 10) (.one (.d (.bool true)), []) (by kernel_rfl) ?_
  refine l_nil ?_
  refine AW.sregL [(0, none)] (by kernel_rfl) ?_
  refine l_det (some 11) (.one (.d (.bool true)), []) (by kernel_rfl) ?_
  refine l_nil ?_
  refine AW.blk ?_
  refine AW.loopL (S := Unit) (fun _ => [(0, .one (.view 900000 0 0 ((List.map TLine.enc data_80c66).length))), (1, .one (.d (.int .i64 a_80c66))), (2, .one (.d (.int .i64 b_80c66))), (3, .one (.d (.int .i64 limit_80c66))), (4, .one (.d (.fn 66 []))), (10, .one (.d (.bool true))), (11, .one (.d (.bool true)))]) (fun _ => [(900000, .pure true 41 7 (List.map TLine.enc data_80c66))]) (fun (s : Unit) N3828 => L80c66_1 b_80c66 a_80c66 data_80c66 K  N3828) (N := fun s => LoopW (fun (s : Unit) N3828 => L80c66_1 b_80c66 a_80c66 data_80c66 K  N3828) s) (Lab.mk () [(900000, some 900000)] (by kernel_rfl) (by kernel_rfl) (by kernel_rfl) (by kernel_rfl) h) (fun _ h => h) ?_
  rintro _ N3828 h
  have h : L80c66_1 b_80c66 a_80c66 data_80c66 K  N3828 := h
  unfold L80c66_1 at h
  refine AW.blk ?_
  refine AW.sregL [(0, none), (1, none), (2, none), (3, none)] (by kernel_rfl) ?_
  refine l_det (some 21) (.one (.d (.int .i64 b_80c66)), []) (by kernel_rfl) ?_
  refine l_det (some 22) (.one (.d (.int .i64 a_80c66)), []) (by kernel_rfl) ?_
  refine l_det (some 23) (.one (.d (.int .i64 (w64 (b_80c66 - a_80c66)))), []) (by kernel_rfl) ?_
  refine l_det (some 12) (.one (.d (.int .i64 (w64 (b_80c66 - a_80c66)))), []) (by kernel_rfl) ?_
  refine l_nil ?_
  refine AW.seq ?_
  refine AW.sregL [(0, none), (1, none)] (by kernel_rfl) ?_
  refine l_det (some 24) (.one (.d (.int .i64 (w64 (b_80c66 - a_80c66)))), []) (by kernel_rfl) ?_
  refine l_det (some 25) (.one (.d (.bool (decide ((w64 (b_80c66 - a_80c66)) ≤ 12)))), []) (by kernel_rfl) ?_
  refine l_nil ?_
  obtain ⟨h10, h⟩ := h
  refine AW.cond (t := (decide ((w64 (b_80c66 - a_80c66)) ≤ 12))) (by kernel_rfl) (fun he => ?_) (fun he => ?_)
  · refine AW.sregL [(0, none), (1, none), (2, none), (3, none), (4, none)] (by kernel_rfl) ?_
    refine l_det (some 26) (.one (.view 900000 0 0 ((List.map TLine.enc data_80c66).length)), []) (by kernel_rfl) ?_
    refine l_det (some 27) (.one (.d (.int .i64 a_80c66)), []) (by kernel_rfl) ?_
    refine l_det (some 28) (.one (.d (.int .i64 b_80c66)), []) (by kernel_rfl) ?_
    refine l_det (some 29) (.one (.d (.fn 66 [])), []) (by kernel_rfl) ?_
    refine l_call ok88c66 en88 (some 30) [.one (.view 900000 0 0 ((List.map TLine.enc data_80c66).length)), .one (.d (.int .i64 a_80c66)), .one (.d (.int .i64 b_80c66)), .one (.d (.fn 66 []))] [true, false, false, false] [.one (.own 41 7 (List.map TLine.enc data_80c66)), .one (.d (.int .i64 a_80c66)), .one (.d (.int .i64 b_80c66)), .one (.d (.fn 66 []))] [] (by kernel_rfl) (ps_own (by kernel_rfl) (by kernel_rfl) rfl (ps_plain (pv_one pf_d) (ps_plain (pv_one pf_d) (ps_plain (pv_one pf_d) ps_nil)))) (by kernel_rfl) (by kernel_rfl) (by kernel_rfl) (cl88c66 data_80c66 a_80c66 b_80c66 h) ?_
    rintro hR _ _ ⟨r3832, rfl, rfl, h12, h⟩
    refine ⟨false, (.tup [], [(900000, 0, .row true 41 7 (dmm (List.map TLine.enc r3832)))]), (fun hz => (by cases hz)), (ret_own (z := false) (by kernel_rfl) (by kernel_rfl) (ob_row (ys := dmm (List.map TLine.enc data_80c66)) (enc := TLine.enc) r3832 (by kernel_rfl) (by rw [List.length_map, List.length_map]; exact h12.symm) (fun _ => rfl))), ?_⟩
    refine l_nil ?_
    refine AW.ret ?_
    refine q_ret ?_
    refine q_bret ?_
    refine q_ret ?_
    refine q_bret ?_
    obtain ⟨h13, h⟩ := h
    exact q_end [] [] [] [List.map TLine.enc r3832] [] (by kernel_rfl) ⟨by kernel_rfl, by kernel_rfl⟩ (by kernel_rfl) (by kernel_rfl) (by kernel_rfl) (b_own (List.map TLine.enc r3832) rfl (by kernel_rfl) (by kernel_rfl) (by simp only [List.length_map]; exact h13)) (Eq.mp (by kernel_rfl) (hK r3832 h13 h)) (.inr rfl)
  · rw [h10] at he; cases he
def r65_0 : List AR := [⟨some 5, .mov (.t 0), [], none⟩,
  ⟨some 6, .lens (.t 5), [0], none⟩,
  ⟨some 4, .mov (.t 6), [1, 0, 1], none⟩]
def r65_1 : List AR := [⟨some 7, .mov (.t 0), [], none⟩,
  ⟨some 8, .mov (.t 4), [], none⟩,
  ⟨some 9, .mov (.t 4), [], none⟩,
  ⟨some 10, .cvi .u64 (.t 9), [2], none⟩,
  ⟨some 11, .call 74 [.t 10], [3], none⟩,
  ⟨some 12, .mov (.t 1), [], none⟩,
  ⟨some 13, .call 80 [.t 7, .c (.int .i64 0), .t 8, .t 11, .t 12], [0, 1, 4, 5, 4], none⟩]
def c65 : ACode := .seq (.reg r65_0 false) (.reg r65_1 false)
theorem body65 : Try.f65.body.map (comp Try.prog 14) = some c65 := by kernel_rfl
theorem res65 : allSome (Try.f65.results.toList.map (compRes Try.prog)) = some [] := by kernel_rfl
theorem cok65 {S : FSpec} (h : ∀ args K, S args K → args.all argOk = true ∧ args.length ≤ 14 ∧ AW Try.prog 14 (some ownP) c65 (initS args) (retPost [] args K)) : COK Try.prog 65 S := of_body Try.func65 Try.ntmps65 body65 res65 h

/-- slices.SortFunc[[]sleuth/estimate.Line,sleuth/estimate.Line] -/
def W65c66 (x_0_65c66 : List TLine) (K : (List TLine) → Prop) : Prop :=
  W74 (IntKind.wrap .u64 (x_0_65c66.length : Int)) fun r3292 => W80c66 x_0_65c66 0 (x_0_65c66.length : Int) r3292 fun r3833 => r3833.length = x_0_65c66.length ∧ K r3833

def S65c66 : FSpec := fun args K => ∃ (x_0_65c66 : List TLine), ∃ (Kr : (List TLine) → Prop), args = [.one (.own 41 7 (List.map TLine.enc x_0_65c66)), .one (.d (.fn 66 []))] ∧ W65c66 x_0_65c66 Kr ∧ ∀ r, r.length = x_0_65c66.length → Kr r → K (.tup []) [List.map TLine.enc r]

theorem en65 : enters Try.prog 65 = true := by unfold enters; rw [Try.func65]; rfl
theorem cl65c66 (x_0_65c66 : List TLine) {Kr : (List TLine) → Prop} (h : W65c66 x_0_65c66 Kr) : S65c66 [.one (.own 41 7 (List.map TLine.enc x_0_65c66)), .one (.d (.fn 66 []))] (fun rv rows => ∃ r, rv = (.tup []) ∧ rows = [List.map TLine.enc r] ∧ r.length = x_0_65c66.length ∧ Kr r) := ⟨x_0_65c66, Kr, rfl, h, fun r hl hr => ⟨r, rfl, rfl, hl, hr⟩⟩

theorem ok65c66 : COK Try.prog 65 S65c66 := by
  refine cok65 fun args K0 hS => ?_
  obtain ⟨x_0_65c66, K, rfl, h, hK⟩ := hS
  refine ⟨by kernel_rfl, by simp, ?_⟩
  unfold W65c66 at h
  refine AW.sregL [(0, none), (1, none), (2, none)] (by kernel_rfl) ?_
  refine l_det (some 5) (.one (.view 900000 0 0 ((List.map TLine.enc x_0_65c66).length)), []) (by kernel_rfl) ?_
  refine l_spec (some 6) (.lens (.t 5)) (.one (.d (.int .i64 (x_0_65c66.length : Int))), []) (by kernel_rfl) (detA_none (d_lens_v (enc := TLine.enc) (o := 900000) (g := 0) x_0_65c66 (by kernel_rfl))) ?_
  refine l_det (some 4) (.one (.d (.int .i64 (x_0_65c66.length : Int))), []) (by kernel_rfl) ?_
  refine l_nil ?_
  refine AW.regL [(0, none), (1, none), (2, none), (3, none), (4, none), (5, none), (6, none)] (by kernel_rfl) ?_
  refine l_det (some 7) (.one (.view 900000 0 0 ((List.map TLine.enc x_0_65c66).length)), []) (by kernel_rfl) ?_
  refine l_det (some 8) (.one (.d (.int .i64 (x_0_65c66.length : Int))), []) (by kernel_rfl) ?_
  refine l_det (some 9) (.one (.d (.int .i64 (x_0_65c66.length : Int))), []) (by kernel_rfl) ?_
  refine l_det (some 10) (.one (.d (.int .u64 (IntKind.wrap .u64 (x_0_65c66.length : Int)))), []) (by kernel_rfl) ?_
  refine l_call ok74 en74 (some 11) [.one (.d (.int .u64 (IntKind.wrap .u64 (x_0_65c66.length : Int))))] [false] [.one (.d (.int .u64 (IntKind.wrap .u64 (x_0_65c66.length : Int))))] [] (by kernel_rfl) ⟨by kernel_rfl, by kernel_rfl⟩ (by kernel_rfl) (by kernel_rfl) (by kernel_rfl) (cl74 (IntKind.wrap .u64 (x_0_65c66.length : Int)) h) ?_
  rintro hR _ _ ⟨r3292, rfl, rfl, h⟩
  refine ⟨false, (.one (.d (.int .i64 r3292)), []), (fun hz => (by cases hz)), (ret_R hR (by kernel_rfl)), ?_⟩
  refine l_det (some 12) (.one (.d (.fn 66 [])), []) (by kernel_rfl) ?_
  refine l_call ok80c66 en80 (some 13) [.one (.view 900000 0 0 ((List.map TLine.enc x_0_65c66).length)), .one (.d (.int .i64 0)), .one (.d (.int .i64 (x_0_65c66.length : Int))), .one (.d (.int .i64 r3292)), .one (.d (.fn 66 []))] [true, false, false, false, false] [.one (.own 41 7 (List.map TLine.enc x_0_65c66)), .one (.d (.int .i64 0)), .one (.d (.int .i64 (x_0_65c66.length : Int))), .one (.d (.int .i64 r3292)), .one (.d (.fn 66 []))] [] (by kernel_rfl) (ps_own (by kernel_rfl) (by kernel_rfl) rfl (ps_plain (pv_one pf_d) (ps_plain (pv_one pf_d) (ps_plain (pv_one pf_d) (ps_plain (pv_one pf_d) ps_nil))))) (by kernel_rfl) (by kernel_rfl) (by kernel_rfl) (cl80c66 x_0_65c66 0 (x_0_65c66.length : Int) r3292 h) ?_
  rintro hR _ _ ⟨r3833, rfl, rfl, h2, h⟩
  refine ⟨false, (.tup [], [(900000, 0, .row true 41 7 (dmm (List.map TLine.enc r3833)))]), (fun hz => (by cases hz)), (ret_own (z := false) (by kernel_rfl) (by kernel_rfl) (ob_row (ys := dmm (List.map TLine.enc x_0_65c66)) (enc := TLine.enc) r3833 (by kernel_rfl) (by rw [List.length_map, List.length_map]; exact h2.symm) (fun _ => rfl))), ?_⟩
  refine l_nil ?_
  obtain ⟨h3, h⟩ := h
  exact q_end [] [] [] [List.map TLine.enc r3833] [] (by kernel_rfl) ⟨by kernel_rfl, by kernel_rfl⟩ (by kernel_rfl) (by kernel_rfl) (by kernel_rfl) (b_own (List.map TLine.enc r3833) rfl (by kernel_rfl) (by kernel_rfl) (by simp only [List.length_map]; exact h3)) (Eq.mp (by kernel_rfl) (hK r3833 h3 h)) (.inl rfl)
def r40_0 : List AR := [⟨some 2, .mov (.c .nils), [], none⟩]
def r40_1 : List AR := [⟨some 3, .mov (.c .nils), [], none⟩]
def r40_2 : List AR := [⟨some 6, .mov (.t 0), [], none⟩,
  ⟨some 7, .rng (.t 6), [0], none⟩]
def r40_3 : List AR := [⟨some 8, .nxt (.t 7), [], none⟩,
  ⟨some 9, .ext (.t 8) 0, [0], none⟩]
def r40_4 : List AR := [⟨some 10, .ent (.t 7), [], none⟩,
  ⟨some 11, .ext (.t 10) 0, [0], none⟩,
  ⟨some 12, .ext (.t 10) 1, [0], none⟩,
  ⟨some 4, .alloc 39 true [.str ⟨#[]⟩, .str ⟨#[]⟩, .str ⟨#[]⟩], [], none⟩,
  ⟨some 5, .alloc 37 true [.int .i64 0, .int .i64 0, .int .i64 0, .int .i64 0], [], none⟩,
  ⟨none, .st 3 (.t 4) (.t 11), [3, 1, 0, 1, 3, 4], none⟩,
  ⟨none, .st 4 (.t 5) (.t 12), [4, 2, 5, 0, 1, 2, 3, 4, 5], none⟩]
def r40_5 : List AR := [⟨some 13, .mov (.t 3), [], none⟩,
  ⟨some 14, .ld true 3 (.t 4), [], none⟩,
  ⟨some 15, .ld true 4 (.t 5), [], none⟩,
  ⟨some 16, .bld [.str ⟨#[]⟩, .str ⟨#[]⟩, .str ⟨#[]⟩, .int .i64 0, .int .i64 0, .int .i64 0, .int .i64 0] [(0, 3, .t 14), (3, 4, .t 15)], [1, 2], none⟩,
  ⟨some 17, .bsl 41 7 1 [.str ⟨#[]⟩, .str ⟨#[]⟩, .str ⟨#[]⟩, .int .i64 0, .int .i64 0, .int .i64 0, .int .i64 0] [(0, .t 16)], [3], none⟩,
  ⟨some 18, .app 41 7 80 [.str ⟨#[]⟩, .str ⟨#[]⟩, .str ⟨#[]⟩, .int .i64 0, .int .i64 0, .int .i64 0, .int .i64 0] (.t 13) (.t 17), [0, 4], none⟩,
  ⟨some 3, .mov (.t 18), [5, 5, 0, 1, 2, 3, 4, 5], none⟩]
def r40_6 : List AR := [⟨some 19, .mov (.t 3), [], none⟩,
  ⟨some 20, .call 65 [.t 19, .f 66], [0], none⟩]
def r40_7 : List AR := [⟨some 21, .mov (.t 3), [], none⟩,
  ⟨some 2, .mov (.t 21), [0, 0], none⟩]
def c40 : ACode := .seq (.reg r40_0 false) (.seq (.reg r40_1 false) (.seq (.seq (.reg r40_2 false) (.blk 0 (.loop (.seq (.reg r40_3 false) (.seq (.cond (.t 9) (.skip) (.exit 0)) (.blk 1 (.seq (.reg r40_4 false) (.reg r40_5 false)))))))) (.seq (.reg r40_6 false) (.seq (.reg r40_7 false) (.ret)))))
theorem body40 : Try.f40.body.map (comp Try.prog 22) = some c40 := by kernel_rfl
theorem res40 : allSome (Try.f40.results.toList.map (compRes Try.prog)) = some [.s 2] := by kernel_rfl
theorem cok40 {S : FSpec} (h : ∀ args K, S args K → args.all argOk = true ∧ args.length ≤ 22 ∧ AW Try.prog 22 (some ownP) c40 (initS args) (retPost [.s 2] args K)) : COK Try.prog 40 S := of_body Try.func40 Try.ntmps40 body40 res40 h

def L40_1 (K : (List TLine) → Prop) (v3277 : List TLine) (v3278 : List (TGroup × TTotal)) (N3281 : ((List TLine) × (List (TGroup × TTotal))) → Prop) : Prop :=
  (v3278 = [] → W65c66 v3277 fun r3835 => K r3835) ∧ (∀ j3836 e3837, v3278[j3836]? = some e3837 → Fits ((v3277 ++ [(TLine.mk e3837.1 e3837.2)]).length * 80) (N3281 ((v3277 ++ [(TLine.mk e3837.1 e3837.2)]), (List.eraseIdx v3278 j3836))))

/-- sleuth/estimate.lines -/
def W40 (totals_40 : List (TGroup × TTotal)) (K : (List TLine) → Prop) : Prop :=
  LoopW (fun (s : ((List TLine) × (List (TGroup × TTotal)))) N3281 => L40_1 K s.1 s.2 N3281) ([], totals_40)

def S40 : FSpec := fun args K => ∃ (totals_40 : List (TGroup × TTotal)), ∃ (Kr : (List TLine) → Prop), args = [.one (.d (.mp true true (enc2 TGroup.enc TTotal.enc totals_40)))] ∧ W40 totals_40 Kr ∧ ∀ r, Kr r → K (.one (.own 41 7 (List.map TLine.enc r))) []

theorem en40 : enters Try.prog 40 = true := by unfold enters; rw [Try.func40]; rfl
theorem cl40 (totals_40 : List (TGroup × TTotal)) {Kr : (List TLine) → Prop} (h : W40 totals_40 Kr) : S40 [.one (.d (.mp true true (enc2 TGroup.enc TTotal.enc totals_40)))] (fun rv rows => ∃ r, rv = (.one (.own 41 7 (List.map TLine.enc r))) ∧ rows = [] ∧ Kr r) := ⟨totals_40, Kr, rfl, h, fun r hr => ⟨r, rfl, rfl, hr⟩⟩

theorem ok40 : COK Try.prog 40 S40 := by
  refine cok40 fun args K0 hS => ?_
  obtain ⟨totals_40, K, rfl, h, hK⟩ := hS
  refine ⟨by kernel_rfl, by simp, ?_⟩
  unfold W40 at h
  refine AW.sregL [(0, none)] (by kernel_rfl) ?_
  refine l_det (some 2) (.one (.nils), []) (by kernel_rfl) ?_
  refine l_nil ?_
  refine AW.sregL [(0, none)] (by kernel_rfl) ?_
  refine l_det (some 3) (.one (.nils), []) (by kernel_rfl) ?_
  refine l_nil ?_
  refine AW.seq ?_
  refine AW.sregL [(0, none), (1, none)] (by kernel_rfl) ?_
  refine l_det (some 6) (.one (.d (.mp true true (enc2 TGroup.enc TTotal.enc totals_40))), []) (by kernel_rfl) ?_
  refine l_spec (some 7) (.rng (.t 6)) (.one (.itr 7 1), [(7, 1, .iter true true (enc2 TGroup.enc TTotal.enc totals_40) none)]) (by kernel_rfl) (detA_none (d_rng (ek := TGroup.enc) (ev := TTotal.enc) totals_40 (by kernel_rfl))) ?_
  refine l_nil ?_
  refine AW.blk ?_
  refine AW.loopL (S := ((List TLine) × (List (TGroup × TTotal)))) (fun s => (fun (v3277 : List TLine) (v3278 : List (TGroup × TTotal)) => [(3, .one (.view 200001 0 0 ((List.map TLine.enc v3277).length))), (7, .one (.itr 200002 0))]) s.1 s.2) (fun s => (fun (v3277 : List TLine) (v3278 : List (TGroup × TTotal)) => [(200001, .pure true 41 7 (List.map TLine.enc v3277)), (200002, .iter true true (enc2 TGroup.enc TTotal.enc v3278))]) s.1 s.2) (fun (s : ((List TLine) × (List (TGroup × TTotal)))) N3281 => L40_1 K s.1 s.2 N3281) (N := fun s => LoopW (fun (s : ((List TLine) × (List (TGroup × TTotal)))) N3281 => L40_1 K s.1 s.2 N3281) s) (Lab.mk ([], totals_40) [(200001, none), (200002, some 7)] (by kernel_rfl) (by kernel_rfl) (by kernel_rfl) (by kernel_rfl) h) (fun _ h => h) ?_
  rintro ⟨v3277, v3278⟩ N3281 h
  have h : L40_1 K v3277 v3278 N3281 := h
  unfold L40_1 at h
  refine AW.sregL [(0, none), (1, none)] (by kernel_rfl) ?_
  refine l_nxt (cur := none) (ek := TGroup.enc) (ev := TTotal.enc) (A := True) (B := True) (some 8) (.t 7) 200002 0 true true v3278 ⟨by kernel_rfl, by kernel_rfl, by kernel_rfl⟩ (by kernel_rfl) (by kernel_rfl) (by kernel_rfl) (fun h20 => ?_) (fun j3836 e3837 h18 => ?_)
  · have h := h.1 h20
    refine l_det (some 9) (.one (.d (.bool false)), []) (by kernel_rfl) ?_
    refine l_nil ?_
    refine AW.seq ?_
    refine AW.condF (by kernel_rfl) ?_
    refine AW.exit ?_
    refine q_exit ?_
    refine q_exit ?_
    refine q_bhere ?_
    refine q_fall ?_
    refine AW.sregL [(0, none), (1, none)] (by kernel_rfl) ?_
    refine l_det (some 19) (.one (.view 200001 0 0 ((List.map TLine.enc v3277).length)), []) (by kernel_rfl) ?_
    refine l_call ok65c66 en65 (some 20) [.one (.view 200001 0 0 ((List.map TLine.enc v3277).length)), .one (.fn 66 [])] [true, false] [.one (.own 41 7 (List.map TLine.enc v3277)), .one (.d (.fn 66 []))] [] (by kernel_rfl) (ps_own (by kernel_rfl) (by kernel_rfl) rfl (ps_plain (pv_one (pk (.fn 66 []) [] (by kernel_rfl) (by kernel_rfl))) ps_nil)) (by kernel_rfl) (by kernel_rfl) (by kernel_rfl) (cl65c66 v3277 h) ?_
    rintro hR _ _ ⟨r3835, rfl, rfl, h17, h⟩
    refine ⟨false, (.tup [], [(200001, 0, .row true 41 7 (dmm (List.map TLine.enc r3835)))]), (fun hz => (by cases hz)), (ret_own (z := false) (by kernel_rfl) (by kernel_rfl) (ob_row (ys := dmm (List.map TLine.enc v3277)) (enc := TLine.enc) r3835 (by kernel_rfl) (by rw [List.length_map, List.length_map]; exact h17.symm) (fun _ => rfl))), ?_⟩
    refine l_renorm 3 (.one (.view 200001 0 0 ((List.map TLine.enc r3835).length))) (Eq.trans (b := .one (.view 200001 0 0 ((List.map TLine.enc v3277).length))) (by kernel_rfl) (by simp only [List.length_map, List.length_set, List.length_cons, List.length_nil, h17])) ?_
    refine l_nil ?_
    refine AW.sregL [(0, none), (1, none)] (by kernel_rfl) ?_
    refine l_det (some 21) (.one (.view 200001 0 0 ((List.map TLine.enc r3835).length)), []) (by kernel_rfl) ?_
    refine l_det (some 2) (.one (.view 200001 0 0 ((List.map TLine.enc r3835).length)), []) (by kernel_rfl) ?_
    refine l_nil ?_
    refine AW.ret ?_
    exact q_end [.one (.view 200001 0 0 ((List.map TLine.enc r3835).length))] [true] [.one (.own 41 7 (List.map TLine.enc r3835))] [] [] (by kernel_rfl) (ps_own (by kernel_rfl) (by kernel_rfl) rfl ps_nil) (by kernel_rfl) (by kernel_rfl) (by kernel_rfl) (by kernel_rfl) (Eq.mp (by kernel_rfl) (hK r3835 h)) (.inr rfl)
  · have h := h.2 j3836 e3837 h18
    refine l_det (some 9) (.one (.d (.bool true)), []) (by kernel_rfl) ?_
    refine l_nil ?_
    refine AW.seq ?_
    refine AW.condT (by kernel_rfl) ?_
    refine AW.skip ?_
    refine q_fall ?_
    refine AW.blk ?_
    refine AW.sregL [(0, none), (1, none), (2, none), (3, none), (4, none), (5, none), (6, none)] (by kernel_rfl) ?_
    refine l_det (some 10) (.tup [.agg [.d (.str e3837.1.service), .d (.str e3837.1.version), .d (.str e3837.1.operation)], .agg [.d (.int .i64 e3837.2.spans), .d (.int .i64 e3837.2.errors), .d (.int .i64 e3837.2.duration), .d (.int .i64 e3837.2.traces)]], []) (by kernel_rfl) ?_
    refine l_det (some 11) (.agg [.d (.str e3837.1.service), .d (.str e3837.1.version), .d (.str e3837.1.operation)], []) (by kernel_rfl) ?_
    refine l_det (some 12) (.agg [.d (.int .i64 e3837.2.spans), .d (.int .i64 e3837.2.errors), .d (.int .i64 e3837.2.duration), .d (.int .i64 e3837.2.traces)], []) (by kernel_rfl) ?_
    refine l_det (some 4) (.one (.ref 4 1 0 0), [(4, 1, .row true 39 3 [[.d (.str (⟨#[]⟩ : ByteArray)), .d (.str (⟨#[]⟩ : ByteArray)), .d (.str (⟨#[]⟩ : ByteArray))]])]) (by kernel_rfl) ?_
    refine l_det (some 5) (.one (.ref 5 1 0 0), [(5, 1, .row true 37 4 [[.d (.int .i64 0), .d (.int .i64 0), .d (.int .i64 0), .d (.int .i64 0)]])]) (by kernel_rfl) ?_
    refine l_det none (.tup [], [(4, 1, .row true 39 3 [[.d (.str e3837.1.service), .d (.str e3837.1.version), .d (.str e3837.1.operation)]])]) (by kernel_rfl) ?_
    refine l_det none (.tup [], [(5, 1, .row true 37 4 [[.d (.int .i64 e3837.2.spans), .d (.int .i64 e3837.2.errors), .d (.int .i64 e3837.2.duration), .d (.int .i64 e3837.2.traces)]])]) (by kernel_rfl) ?_
    refine l_nil ?_
    refine AW.regL [(0, none), (1, none), (2, none), (3, none), (4, none), (5, none), (6, none)] (by kernel_rfl) ?_
    refine l_det (some 13) (.one (.view 200001 0 0 ((List.map TLine.enc v3277).length)), []) (by kernel_rfl) ?_
    refine l_det (some 14) (.agg [.d (.str e3837.1.service), .d (.str e3837.1.version), .d (.str e3837.1.operation)], []) (by kernel_rfl) ?_
    refine l_det (some 15) (.agg [.d (.int .i64 e3837.2.spans), .d (.int .i64 e3837.2.errors), .d (.int .i64 e3837.2.duration), .d (.int .i64 e3837.2.traces)], []) (by kernel_rfl) ?_
    refine l_det (some 16) (.agg [.d (.str e3837.1.service), .d (.str e3837.1.version), .d (.str e3837.1.operation), .d (.int .i64 e3837.2.spans), .d (.int .i64 e3837.2.errors), .d (.int .i64 e3837.2.duration), .d (.int .i64 e3837.2.traces)], []) (by kernel_rfl) ?_
    refine l_det (some 17) (.one (.view 17 1 0 1), [(17, 1, .row true 41 7 [[.d (.str e3837.1.service), .d (.str e3837.1.version), .d (.str e3837.1.operation), .d (.int .i64 e3837.2.spans), .d (.int .i64 e3837.2.errors), .d (.int .i64 e3837.2.duration), .d (.int .i64 e3837.2.traces)]])]) (by kernel_rfl) ?_
    obtain ⟨h19, h⟩ := h
    refine l_spec (some 18) (.app 41 7 80 [.str ⟨#[]⟩, .str ⟨#[]⟩, .str ⟨#[]⟩, .int .i64 0, .int .i64 0, .int .i64 0, .int .i64 0] (.t 13) (.t 17)) (.one (.view 200001 1 0 ((List.map TLine.enc (v3277 ++ [(TLine.mk e3837.1 e3837.2)])).length)), [(200001, 1, .row true 41 7 (dmm (List.map TLine.enc (v3277 ++ [(TLine.mk e3837.1 e3837.2)]))))]) (by kernel_rfl) (detA_none (d_app_v (enc := TLine.enc) (xc := .view 17 1 0 1) v3277 [(TLine.mk e3837.1 e3837.2)] (by kernel_rfl) (by kernel_rfl) (by kernel_rfl) (by kernel_rfl) (by kernel_rfl) h19 (by kernel_rfl))) ?_
    refine l_det (some 3) (.one (.view 200001 1 0 ((List.map TLine.enc (v3277 ++ [(TLine.mk e3837.1 e3837.2)])).length)), []) (by kernel_rfl) ?_
    refine l_nil ?_
    refine q_bfall ?_
    refine q_fall ?_
    exact Lab.mk ((v3277 ++ [(TLine.mk e3837.1 e3837.2)]), (List.eraseIdx v3278 j3836)) [(200001, some 200001), (200002, some 200002)] (by kernel_rfl) (by kernel_rfl) (by kernel_rfl) (by kernel_rfl) h
def r14_0 : List AR := [⟨some 4, .mov (.c .nils), [], none⟩,
  ⟨some 5, .mov (.c (.int .i64 0)), [0], none⟩]
def r14_1 : List AR := [⟨some 17, .mov (.t 1), [], none⟩,
  ⟨some 18, .call 37 [.t 17], [0], none⟩,
  ⟨some 16, .mov (.t 18), [1], none⟩,
  ⟨some 19, .ext (.t 16) 0, [2], none⟩,
  ⟨some 20, .ext (.t 16) 1, [2], none⟩,
  ⟨some 6, .mov (.t 19), [3, 1, 0, 1, 2, 3], none⟩,
  ⟨some 7, .mov (.t 20), [4, 5, 0, 1, 2, 3, 4, 5], none⟩]
def r14_2 : List AR := [⟨some 21, .mov (.t 7), [], none⟩,
  ⟨some 22, .un .not (.t 21), [0], none⟩]
def r14_3 : List AR := [⟨some 4, .mov (.c .nils), [], none⟩,
  ⟨some 5, .mov (.c (.int .i64 12)), [0, 0], none⟩]
def r14_4 : List AR := [⟨some 23, .mkm none, [], none⟩,
  ⟨some 8, .mov (.t 23), [0, 0], none⟩]
def r14_5 : List AR := [⟨some 24, .mov (.t 0), [], none⟩,
  ⟨some 25, .lens (.t 24), [0], none⟩,
  ⟨some 26, .mov (.c (.int .i64 0)), [], none⟩]
def r14_6 : List AR := [⟨some 27, .bin .lss (.t 26) (.t 25), [], none⟩]
def r14_7 : List AR := [⟨some 28, .iad 3 (.t 24) (.t 26), [], none⟩,
  ⟨some 29, .ld true 3 (.t 28), [0], none⟩,
  ⟨some 10, .alloc 53 true [.int .i64 0, .int .i64 0, .nils], [], none⟩,
  ⟨none, .st 3 (.t 10) (.t 29), [2, 1, 0, 1, 2], none⟩]
def r14_8 : List AR := [⟨some 30, .mkm none, [], none⟩,
  ⟨some 11, .mov (.t 30), [0, 0], none⟩]
def r14_9 : List AR := [⟨some 31, .fad (.t 10) 2, [], none⟩,
  ⟨some 32, .ld false 1 (.t 31), [0], none⟩,
  ⟨some 33, .lens (.t 32), [1], none⟩,
  ⟨some 34, .mov (.c (.int .i64 0)), [], none⟩]
def r14_10 : List AR := [⟨some 35, .bin .lss (.t 34) (.t 33), [], none⟩]
def r14_11 : List AR := [⟨some 36, .iad 14 (.t 32) (.t 34), [], none⟩,
  ⟨some 37, .ld true 14 (.t 36), [0], none⟩,
  ⟨some 13, .alloc 58 true [.int .i64 0, .int .i64 0, .int .i64 0, .int .i64 0, .int .i64 0, .int .i64 0, .str ⟨#[]⟩, .str ⟨#[]⟩, .str ⟨#[]⟩, .int .i64 0, .int .i64 0, .bool false, .nils, .nils], [], none⟩,
  ⟨none, .st 14 (.t 13) (.t 37), [2, 1, 0, 1, 2], none⟩]
def r14_12 : List AR := [⟨some 38, .mov (.t 6), [], none⟩,
  ⟨some 39, .ld true 14 (.t 13), [], none⟩,
  ⟨some 40, .callv (.t 38) [.t 39], [0, 1], none⟩,
  ⟨some 14, .alloc 39 true [.str ⟨#[]⟩, .str ⟨#[]⟩, .str ⟨#[]⟩], [], none⟩,
  ⟨none, .st 3 (.t 14) (.t 40), [3, 2, 2, 0, 1, 2, 3], none⟩]
def r14_13 : List AR := [⟨some 41, .fad (.t 10) 1, [], none⟩,
  ⟨some 42, .ld false 1 (.t 41), [0], none⟩,
  ⟨some 43, .fad (.t 10) 1, [], none⟩,
  ⟨some 44, .ld false 1 (.t 43), [2], none⟩,
  ⟨some 45, .ld true 14 (.t 13), [], none⟩,
  ⟨some 46, .call 38 [.t 45], [4], none⟩,
  ⟨some 47, .bin .mul (.t 44) (.t 46), [3, 5], none⟩,
  ⟨some 48, .bld [.int .i64 0, .int .i64 0, .int .i64 0, .int .i64 0] [(0, 1, .t 42), (2, 1, .t 47)], [1, 6], none⟩,
  ⟨some 15, .alloc 37 true [.int .i64 0, .int .i64 0, .int .i64 0, .int .i64 0], [], none⟩,
  ⟨none, .st 4 (.t 15) (.t 48), [8, 7, 5, 0, 1, 2, 3, 4, 5, 6, 7, 8], none⟩]
def r14_14 : List AR := [⟨some 49, .fad (.t 13) 11, [], none⟩,
  ⟨some 50, .ld false 1 (.t 49), [0], none⟩]
def r14_15 : List AR := [⟨some 51, .fad (.t 10) 1, [], none⟩,
  ⟨some 52, .ld false 1 (.t 51), [0], none⟩,
  ⟨some 53, .fad (.t 15) 1, [0, 1], none⟩,
  ⟨none, .st 1 (.t 53) (.t 52), [2, 1, 0, 1], none⟩]
def r14_16 : List AR := [⟨some 54, .mov (.t 11), [], none⟩,
  ⟨some 55, .ld true 3 (.t 14), [], none⟩,
  ⟨some 56, .lkp [.s, .s, .s] true false [.bool false] (.t 54) (.t 55) false, [0, 1], none⟩,
  ⟨some 57, .un .not (.t 56), [2], none⟩]
def r14_17 : List AR := [⟨some 58, .mov (.t 11), [], none⟩,
  ⟨some 59, .ld true 3 (.t 14), [], none⟩,
  ⟨some 60, .fad (.t 10) 1, [], none⟩,
  ⟨some 61, .ld false 1 (.t 60), [2], none⟩,
  ⟨none, .mup [.s, .s, .s] true (.t 58) (.t 59) (.c (.bool true)), [0, 1, 0, 1], none⟩,
  ⟨some 62, .fad (.t 15) 3, [0, 1, 2, 3, 4], none⟩,
  ⟨none, .st 1 (.t 62) (.t 61), [5, 3, 4, 0, 1, 2, 3, 4], none⟩]
def r14_18 : List AR := [⟨some 63, .mov (.t 8), [], none⟩,
  ⟨some 64, .ld true 3 (.t 14), [], none⟩,
  ⟨some 65, .mov (.t 8), [], none⟩,
  ⟨some 66, .ld true 3 (.t 14), [], none⟩,
  ⟨some 67, .lkp [.s, .s, .s] true true [.int .i64 0, .int .i64 0, .int .i64 0, .int .i64 0] (.t 65) (.t 66) false, [2, 3], none⟩,
  ⟨some 68, .ld true 4 (.t 15), [], none⟩,
  ⟨some 69, .call 39 [.t 67, .t 68], [4, 5], none⟩,
  ⟨none, .mup [.s, .s, .s] true (.t 63) (.t 64) (.t 69), [0, 1, 6, 6, 0, 1, 2, 3, 4, 5, 6], none⟩]
def r14_19 : List AR := [⟨some 70, .bin .add (.t 34) (.c (.int .i64 1)), [], none⟩,
  ⟨some 34, .mov (.t 70), [0], none⟩]
def r14_20 : List AR := [⟨some 71, .bin .add (.t 26) (.c (.int .i64 1)), [], none⟩,
  ⟨some 26, .mov (.t 71), [0], none⟩]
def r14_21 : List AR := [⟨some 72, .mov (.t 8), [], none⟩,
  ⟨some 73, .call 40 [.t 72], [0], none⟩,
  ⟨some 4, .mov (.t 73), [1, 1, 0, 1], none⟩,
  ⟨some 5, .mov (.c (.int .i64 0)), [2, 0, 1, 2], none⟩]
def c14 : ACode := .seq (.reg r14_0 false) (.seq (.reg r14_1 false) (.seq (.seq (.reg r14_2 false) (.cond (.t 22) (.seq (.reg r14_3 false) (.ret)) (.skip))) (.seq (.reg r14_4 false) (.seq (.seq (.reg r14_5 false) (.blk 0 (.loop (.seq (.reg r14_6 false) (.seq (.cond (.t 27) (.skip) (.exit 0)) (.seq (.blk 1 (.seq (.reg r14_7 false) (.seq (.reg r14_8 false) (.seq (.reg r14_9 false) (.blk 2 (.loop (.seq (.reg r14_10 false) (.seq (.cond (.t 35) (.skip) (.exit 2)) (.seq (.blk 3 (.seq (.reg r14_11 false) (.seq (.reg r14_12 false) (.seq (.reg r14_13 true) (.seq (.seq (.reg r14_14 false) (.cond (.t 50) (.reg r14_15 false) (.skip))) (.seq (.seq (.reg r14_16 false) (.cond (.t 57) (.reg r14_17 true) (.skip))) (.reg r14_18 true))))))) (.reg r14_19 false)))))))))) (.reg r14_20 false))))))) (.seq (.reg r14_21 false) (.ret))))))
theorem body14 : Try.f14.body.map (comp Try.prog 74) = some c14 := by kernel_rfl
theorem res14 : allSome (Try.f14.results.toList.map (compRes Try.prog)) = some [.s 4, .s 5] := by kernel_rfl
theorem cok14 {S : FSpec} (h : ∀ args K, S args K → args.all argOk = true ∧ args.length ≤ 74 ∧ AW Try.prog 74 (some ownP) c14 (initS args) (retPost [.s 4, .s 5] args K)) : COK Try.prog 14 S := of_body Try.func14 Try.ntmps14 body14 res14 h

def J14_4 (r3258 : TGroup) (v3214 : List (TGroup × TTotal)) (x3193 : TTrace) (v3261 : Int) (r3260 : Int) (N3241 : ((List (TGroup × TTotal)) × (List (TGroup × Bool)) × Int) → Prop) (v3216 : Int) (v3262 : List (TGroup × Bool)) (v3263 : Int) : Prop :=
  W39 (TTotal.mk (((alGet r3258 v3214).getD (TTotal.mk 0 0 0 0)).spans) (((alGet r3258 v3214).getD (TTotal.mk 0 0 0 0)).errors) (((alGet r3258 v3214).getD (TTotal.mk 0 0 0 0)).duration) (((alGet r3258 v3214).getD (TTotal.mk 0 0 0 0)).traces)) (TTotal.mk x3193.weight v3261 (w64 (x3193.weight * r3260)) v3263) fun r3264 => N3241 ((alPut r3258 r3264 v3214), v3262, (w64 (v3216 + 1)))

def J14_3 (r3258 : TGroup) (v3215 : List (TGroup × Bool)) (v3214 : List (TGroup × TTotal)) (x3193 : TTrace) (r3260 : Int) (N3241 : ((List (TGroup × TTotal)) × (List (TGroup × Bool)) × Int) → Prop) (v3216 : Int) (v3261 : Int) : Prop :=
  Cond (!((alGet r3258 v3215).getD false)) (J14_4 r3258 v3214 x3193 v3261 r3260 N3241 v3216 (alPut r3258 true v3215) x3193.weight) (J14_4 r3258 v3214 x3193 v3261 r3260 N3241 v3216 v3215 0)

def L14_2 (x3193 : TTrace) (r2371 : (C × Bool)) (N3117 : ((List (TGroup × TTotal)) × Int) → Prop) (v2968 : Int) (v3214 : List (TGroup × TTotal)) (v3215 : List (TGroup × Bool)) (v3216 : Int) (N3241 : ((List (TGroup × TTotal)) × (List (TGroup × Bool)) × Int) → Prop) : Prop :=
  Cond (decide (v3216 < (x3193.spans.length : Int))) (Idx x3193.spans v3216 fun x3255 => ∃ KK3265, ((r2371.1 = .fn 62 [] ∧ W62 x3255 KK3265) ∨ (r2371.1 = .fn 63 [] ∧ W63 x3255 KK3265) ∨ (r2371.1 = .fn 64 [] ∧ W64 x3255 KK3265)) ∧ ∀ r3258, KK3265 r3258 → W38 x3255 fun r3260 => Cond x3255.error (J14_3 r3258 v3215 v3214 x3193 r3260 N3241 v3216 x3193.weight) (J14_3 r3258 v3215 v3214 x3193 r3260 N3241 v3216 0)) (N3117 (v3214, (w64 (v2968 + 1))))

def L14_1 (l_14 : List TTrace) (r2371 : (C × Bool)) (K : ((List TLine) × Int) → Prop) (v2967 : List (TGroup × TTotal)) (v2968 : Int) (N3117 : ((List (TGroup × TTotal)) × Int) → Prop) : Prop :=
  Cond (decide (v2968 < (l_14.length : Int))) (Idx l_14 v2968 fun x3193 => LoopW (fun (s : ((List (TGroup × TTotal)) × (List (TGroup × Bool)) × Int)) N3241 => L14_2 x3193 r2371 N3117 v2968 s.1 s.2.1 s.2.2 N3241) (v2967, [], 0)) (W40 v2967 fun r3839 => K (r3839, 0))

/-- sleuth/estimate.By -/
def W14 (l_14 : List TTrace) (level_14 : Int) (K : ((List TLine) × Int) → Prop) : Prop :=
  W37 level_14 fun r2371 => Cond (!r2371.2) (K ([], 12)) (LoopW (fun (s : ((List (TGroup × TTotal)) × Int)) N3117 => L14_1 l_14 r2371 K s.1 s.2 N3117) ([], 0))

def S14 : FSpec := fun args K => ∃ (l_14 : List TTrace), ∃ (level_14 : Int), ∃ (Kr : ((List TLine) × Int) → Prop), args = [.one (.d (.sl (List.map TTrace.enc l_14))), .one (.d (.int .i64 level_14))] ∧ W14 l_14 level_14 Kr ∧ ∀ r, Kr r → K (.tup [.one (.own 41 7 (List.map TLine.enc r.1)), .one (.d (.int .i64 r.2))]) []

theorem en14 : enters Try.prog 14 = true := by unfold enters; rw [Try.func14]; rfl
theorem cl14 (l_14 : List TTrace) (level_14 : Int) {Kr : ((List TLine) × Int) → Prop} (h : W14 l_14 level_14 Kr) : S14 [.one (.d (.sl (List.map TTrace.enc l_14))), .one (.d (.int .i64 level_14))] (fun rv rows => ∃ r, rv = (.tup [.one (.own 41 7 (List.map TLine.enc r.1)), .one (.d (.int .i64 r.2))]) ∧ rows = [] ∧ Kr r) := ⟨l_14, level_14, Kr, rfl, h, fun r hr => ⟨r, rfl, rfl, hr⟩⟩

theorem ok14 : COK Try.prog 14 S14 := by
  refine cok14 fun args K0 hS => ?_
  obtain ⟨l_14, level_14, K, rfl, h, hK⟩ := hS
  refine ⟨by kernel_rfl, by simp, ?_⟩
  unfold W14 at h
  refine AW.sregL [(0, none), (1, none)] (by kernel_rfl) ?_
  refine l_det (some 4) (.one (.nils), []) (by kernel_rfl) ?_
  refine l_det (some 5) (.one (.d (.int .i64 0)), []) (by kernel_rfl) ?_
  refine l_nil ?_
  refine AW.sregL [(0, none), (1, none), (2, none), (3, none), (4, none), (5, none), (6, none)] (by kernel_rfl) ?_
  refine l_det (some 17) (.one (.d (.int .i64 level_14)), []) (by kernel_rfl) ?_
  refine l_call ok37 en37 (some 18) [.one (.d (.int .i64 level_14))] [false] [.one (.d (.int .i64 level_14))] [] (by kernel_rfl) ⟨by kernel_rfl, by kernel_rfl⟩ (by kernel_rfl) (by kernel_rfl) (by kernel_rfl) (cl37 level_14 h) ?_
  rintro hR _ _ ⟨r2371, rfl, rfl, h⟩
  refine ⟨false, (.tup [.one (.d r2371.1), .one (.d (.bool r2371.2))], []), (fun hz => (by cases hz)), (ret_R hR (by kernel_rfl)), ?_⟩
  refine l_det (some 16) (.tup [.one (.d r2371.1), .one (.d (.bool r2371.2))], []) (by kernel_rfl) ?_
  refine l_det (some 19) (.one (.d r2371.1), []) (by kernel_rfl) ?_
  refine l_det (some 20) (.one (.d (.bool r2371.2)), []) (by kernel_rfl) ?_
  refine l_det (some 6) (.one (.d r2371.1), []) (by kernel_rfl) ?_
  refine l_det (some 7) (.one (.d (.bool r2371.2)), []) (by kernel_rfl) ?_
  refine l_nil ?_
  refine AW.seq ?_
  refine AW.sregL [(0, none), (1, none)] (by kernel_rfl) ?_
  refine l_det (some 21) (.one (.d (.bool r2371.2)), []) (by kernel_rfl) ?_
  refine l_det (some 22) (.one (.d (.bool (!r2371.2))), []) (by kernel_rfl) ?_
  refine l_nil ?_
  refine AW.cond' (by kernel_rfl) h (fun h => ?_) (fun h => ?_)
  · refine AW.sregL [(0, none), (1, none)] (by kernel_rfl) ?_
    refine l_det (some 4) (.one (.nils), []) (by kernel_rfl) ?_
    refine l_det (some 5) (.one (.d (.int .i64 12)), []) (by kernel_rfl) ?_
    refine l_nil ?_
    refine AW.sim (F := [(299999, none)]) (T := [(4, .one (.view 299999 0 0 ((List.map TLine.enc []).length))), (5, .one (.d (.int .i64 12)))]) (O := [(299999, .pure true 41 7 (List.map TLine.enc []))]) ⟨by kernel_rfl, by kernel_rfl, by kernel_rfl, by kernel_rfl⟩ ?_
    refine AW.ret ?_
    refine q_ret ?_
    exact q_end [.one (.view 299999 0 0 ((List.map TLine.enc []).length)), .one (.d (.int .i64 12))] [true, false] [.one (.own 41 7 (List.map TLine.enc [])), .one (.d (.int .i64 12))] [] [] (by kernel_rfl) (ps_own (by kernel_rfl) (by kernel_rfl) rfl (ps_plain (pv_one pf_d) ps_nil)) (by kernel_rfl) (by kernel_rfl) (by kernel_rfl) (by kernel_rfl) (Eq.mp (by kernel_rfl) (hK ([], 12) h)) (.inr rfl)
  · refine AW.skip ?_
    refine q_fall ?_
    refine AW.sregL [(0, none), (1, none)] (by kernel_rfl) ?_
    refine l_det (some 23) (.one (.mpr 23 1), [(23, 1, .map true false false [])]) (by kernel_rfl) ?_
    refine l_det (some 8) (.one (.mpr 23 1), []) (by kernel_rfl) ?_
    refine l_nil ?_
    refine AW.seq ?_
    refine AW.sregL [(0, none), (1, none), (2, none)] (by kernel_rfl) ?_
    refine l_det (some 24) (.one (.d (.sl (List.map TTrace.enc l_14))), []) (by kernel_rfl) ?_
    refine l_spec (some 25) (.lens (.t 24)) (.one (.d (.int .i64 (l_14.length : Int))), []) (by kernel_rfl) (detA_none (d_lens_sl (enc := TTrace.enc) l_14 (by kernel_rfl))) ?_
    refine l_det (some 26) (.one (.d (.int .i64 0)), []) (by kernel_rfl) ?_
    refine l_nil ?_
    refine AW.blk ?_
    refine AW.loopL (S := ((List (TGroup × TTotal)) × Int)) (fun s => (fun (v2967 : List (TGroup × TTotal)) (v2968 : Int) => [(6, .one (.d r2371.1)), (8, .one (.mpr 200001 0)), (24, .one (.d (.sl (List.map TTrace.enc l_14)))), (25, .one (.d (.int .i64 (l_14.length : Int)))), (26, .one (.d (.int .i64 v2968)))]) s.1 s.2) (fun s => (fun (v2967 : List (TGroup × TTotal)) (v2968 : Int) => [(200001, .map true true true (enc2 TGroup.enc TTotal.enc v2967))]) s.1 s.2) (fun (s : ((List (TGroup × TTotal)) × Int)) N3117 => L14_1 l_14 r2371 K s.1 s.2 N3117) (N := fun s => LoopW (fun (s : ((List (TGroup × TTotal)) × Int)) N3117 => L14_1 l_14 r2371 K s.1 s.2 N3117) s) (Lab.mk ([], 0) [(200001, some 23)] (by kernel_rfl) (by kernel_rfl) (by kernel_rfl) (by kernel_rfl) h) (fun _ h => h) ?_
    rintro ⟨v2967, v2968⟩ N3117 h
    have h : L14_1 l_14 r2371 K v2967 v2968 N3117 := h
    unfold L14_1 at h
    refine AW.sregL [(0, none)] (by kernel_rfl) ?_
    refine l_det (some 27) (.one (.d (.bool (decide (v2968 < (l_14.length : Int))))), []) (by kernel_rfl) ?_
    refine l_nil ?_
    refine AW.seq ?_
    refine AW.cond' (by kernel_rfl) h (fun h => ?_) (fun h => ?_)
    · refine AW.skip ?_
      refine q_fall ?_
      refine AW.seq ?_
      refine AW.blk ?_
      refine AW.sregL [(0, none), (1, none), (2, none), (3, none)] (by kernel_rfl) ?_
      obtain ⟨h775, x3193, h776, h⟩ := h
      refine l_spec (some 28) (.iad 3 (.t 24) (.t 26)) (.one (.d (.ptr [.int .i64 x3193.id, .int .i64 x3193.weight, .sl (List.map TSpan.enc x3193.spans)])), []) (by kernel_rfl) (detA_none (d_iad_sl (enc := TTrace.enc) (k := .i64) l_14 x3193 (by kernel_rfl) (by kernel_rfl) h775 h776 rfl)) ?_
      refine l_det (some 29) (.agg [.d (.int .i64 x3193.id), .d (.int .i64 x3193.weight), .d (.sl (List.map TSpan.enc x3193.spans))], []) (by kernel_rfl) ?_
      refine l_det (some 10) (.one (.ref 10 1 0 0), [(10, 1, .row true 53 3 [[.d (.int .i64 0), .d (.int .i64 0), .nils]])]) (by kernel_rfl) ?_
      refine l_det none (.tup [], [(10, 1, .row true 53 3 [[.d (.int .i64 x3193.id), .d (.int .i64 x3193.weight), .d (.sl (List.map TSpan.enc x3193.spans))]])]) (by kernel_rfl) ?_
      refine l_nil ?_
      refine AW.sregL [(0, none), (1, none)] (by kernel_rfl) ?_
      refine l_det (some 30) (.one (.mpr 30 1), [(30, 1, .map true false false [])]) (by kernel_rfl) ?_
      refine l_det (some 11) (.one (.mpr 30 1), []) (by kernel_rfl) ?_
      refine l_nil ?_
      refine AW.sregL [(0, none), (1, none), (2, none), (3, none)] (by kernel_rfl) ?_
      refine l_det (some 31) (.one (.ref 10 1 0 2), []) (by kernel_rfl) ?_
      refine l_det (some 32) (.one (.d (.sl (List.map TSpan.enc x3193.spans))), []) (by kernel_rfl) ?_
      refine l_spec (some 33) (.lens (.t 32)) (.one (.d (.int .i64 (x3193.spans.length : Int))), []) (by kernel_rfl) (detA_none (d_lens_sl (enc := TSpan.enc) x3193.spans (by kernel_rfl))) ?_
      refine l_det (some 34) (.one (.d (.int .i64 0)), []) (by kernel_rfl) ?_
      refine l_nil ?_
      refine AW.blk ?_
      refine AW.loopL (S := ((List (TGroup × TTotal)) × (List (TGroup × Bool)) × Int)) (fun s => (fun (v3214 : List (TGroup × TTotal)) (v3215 : List (TGroup × Bool)) (v3216 : Int) => [(6, .one (.d r2371.1)), (8, .one (.mpr 200001 0)), (10, .one (.ref 200002 0 0 0)), (11, .one (.mpr 200003 0)), (24, .one (.d (.sl (List.map TTrace.enc l_14)))), (25, .one (.d (.int .i64 (l_14.length : Int)))), (26, .one (.d (.int .i64 v2968))), (32, .one (.d (.sl (List.map TSpan.enc x3193.spans)))), (33, .one (.d (.int .i64 (x3193.spans.length : Int)))), (34, .one (.d (.int .i64 v3216)))]) s.1 s.2.1 s.2.2) (fun s => (fun (v3214 : List (TGroup × TTotal)) (v3215 : List (TGroup × Bool)) (v3216 : Int) => [(200001, .map true true true (enc2 TGroup.enc TTotal.enc v3214)), (200002, .expl true 53 3 [[.d (.int .i64 x3193.id), .d (.int .i64 x3193.weight), .d (.sl (List.map TSpan.enc x3193.spans))]]), (200003, .map true true false (enc2 TGroup.enc eBool v3215))]) s.1 s.2.1 s.2.2) (fun (s : ((List (TGroup × TTotal)) × (List (TGroup × Bool)) × Int)) N3241 => L14_2 x3193 r2371 N3117 v2968 s.1 s.2.1 s.2.2 N3241) (N := fun s => LoopW (fun (s : ((List (TGroup × TTotal)) × (List (TGroup × Bool)) × Int)) N3241 => L14_2 x3193 r2371 N3117 v2968 s.1 s.2.1 s.2.2 N3241) s) (Lab.mk (v2967, [], 0) [(200001, some 200001), (200002, some 10), (200003, some 30)] (by kernel_rfl) (by kernel_rfl) (by kernel_rfl) (by kernel_rfl) h) (fun _ h => h) ?_
      rintro ⟨v3214, v3215, v3216⟩ N3241 h
      have h : L14_2 x3193 r2371 N3117 v2968 v3214 v3215 v3216 N3241 := h
      unfold L14_2 at h
      refine AW.sregL [(0, none)] (by kernel_rfl) ?_
      refine l_det (some 35) (.one (.d (.bool (decide (v3216 < (x3193.spans.length : Int))))), []) (by kernel_rfl) ?_
      refine l_nil ?_
      refine AW.seq ?_
      refine AW.cond' (by kernel_rfl) h (fun h => ?_) (fun h => ?_)
      · refine AW.skip ?_
        refine q_fall ?_
        refine AW.seq ?_
        refine AW.blk ?_
        refine AW.sregL [(0, none), (1, none), (2, none), (3, none)] (by kernel_rfl) ?_
        obtain ⟨h834, x3255, h835, h⟩ := h
        refine l_spec (some 36) (.iad 14 (.t 32) (.t 34)) (.one (.d (.ptr [.int .i64 x3255.trace, .int .i64 x3255.id, .int .i64 x3255.parent, .int .i64 x3255.revision, .int .i64 x3255.clock, .int .i64 x3255.kind, .str x3255.service, .str x3255.version, .str x3255.operation, .int .i64 x3255.start, .int .i64 x3255.end_, .bool x3255.error, .sl (List.map TAttr.enc x3255.attrs), .sl (List.map TRef.enc x3255.links)])), []) (by kernel_rfl) (detA_none (d_iad_sl (enc := TSpan.enc) (k := .i64) x3193.spans x3255 (by kernel_rfl) (by kernel_rfl) h834 h835 rfl)) ?_
        refine l_det (some 37) (.agg [.d (.int .i64 x3255.trace), .d (.int .i64 x3255.id), .d (.int .i64 x3255.parent), .d (.int .i64 x3255.revision), .d (.int .i64 x3255.clock), .d (.int .i64 x3255.kind), .d (.str x3255.service), .d (.str x3255.version), .d (.str x3255.operation), .d (.int .i64 x3255.start), .d (.int .i64 x3255.end_), .d (.bool x3255.error), .d (.sl (List.map TAttr.enc x3255.attrs)), .d (.sl (List.map TRef.enc x3255.links))], []) (by kernel_rfl) ?_
        refine l_det (some 13) (.one (.ref 13 1 0 0), [(13, 1, .row true 58 14 [[.d (.int .i64 0), .d (.int .i64 0), .d (.int .i64 0), .d (.int .i64 0), .d (.int .i64 0), .d (.int .i64 0), .d (.str (⟨#[]⟩ : ByteArray)), .d (.str (⟨#[]⟩ : ByteArray)), .d (.str (⟨#[]⟩ : ByteArray)), .d (.int .i64 0), .d (.int .i64 0), .d (.bool false), .nils, .nils]])]) (by kernel_rfl) ?_
        refine l_det none (.tup [], [(13, 1, .row true 58 14 [[.d (.int .i64 x3255.trace), .d (.int .i64 x3255.id), .d (.int .i64 x3255.parent), .d (.int .i64 x3255.revision), .d (.int .i64 x3255.clock), .d (.int .i64 x3255.kind), .d (.str x3255.service), .d (.str x3255.version), .d (.str x3255.operation), .d (.int .i64 x3255.start), .d (.int .i64 x3255.end_), .d (.bool x3255.error), .d (.sl (List.map TAttr.enc x3255.attrs)), .d (.sl (List.map TRef.enc x3255.links))]])]) (by kernel_rfl) ?_
        refine l_nil ?_
        refine AW.sregL [(0, none), (1, none), (2, none), (3, none), (4, none)] (by kernel_rfl) ?_
        refine l_det (some 38) (.one (.d r2371.1), []) (by kernel_rfl) ?_
        refine l_det (some 39) (.agg [.d (.int .i64 x3255.trace), .d (.int .i64 x3255.id), .d (.int .i64 x3255.parent), .d (.int .i64 x3255.revision), .d (.int .i64 x3255.clock), .d (.int .i64 x3255.kind), .d (.str x3255.service), .d (.str x3255.version), .d (.str x3255.operation), .d (.int .i64 x3255.start), .d (.int .i64 x3255.end_), .d (.bool x3255.error), .d (.sl (List.map TAttr.enc x3255.attrs)), .d (.sl (List.map TRef.enc x3255.links))], []) (by kernel_rfl) ?_
        obtain ⟨KK3265, h841, h⟩ := h
        have h841 : ∃ f S, r2371.1 = .fn f [] ∧ enters Try.prog f = true ∧ COK Try.prog f S ∧ S [.agg (List.map RC.d [.int .i64 x3255.trace, .int .i64 x3255.id, .int .i64 x3255.parent, .int .i64 x3255.revision, .int .i64 x3255.clock, .int .i64 x3255.kind, .str x3255.service, .str x3255.version, .str x3255.operation, .int .i64 x3255.start, .int .i64 x3255.end_, .bool x3255.error, .sl (List.map TAttr.enc x3255.attrs), .sl (List.map TRef.enc x3255.links)])] (fun rv rows => ∃ r, rv = (.agg (List.map RC.d (TGroup.enc r))) ∧ rows = [] ∧ KK3265 r) := by
          rcases h841 with ⟨hf, hc⟩ | ⟨hf, hc⟩ | ⟨hf, hc⟩
          · exact ⟨62, S62, hf, en62, ok62, cl62 x3255 hc⟩
          · exact ⟨63, S63, hf, en63, ok63, cl63 x3255 hc⟩
          · exact ⟨64, S64, hf, en64, ok64, cl64 x3255 hc⟩
        refine l_callv (some 40) (.t 38) [.t 39] [.agg [.d (.int .i64 x3255.trace), .d (.int .i64 x3255.id), .d (.int .i64 x3255.parent), .d (.int .i64 x3255.revision), .d (.int .i64 x3255.clock), .d (.int .i64 x3255.kind), .d (.str x3255.service), .d (.str x3255.version), .d (.str x3255.operation), .d (.int .i64 x3255.start), .d (.int .i64 x3255.end_), .d (.bool x3255.error), .d (.sl (List.map TAttr.enc x3255.attrs)), .d (.sl (List.map TRef.enc x3255.links))]] [false] [.agg (List.map RC.d [.int .i64 x3255.trace, .int .i64 x3255.id, .int .i64 x3255.parent, .int .i64 x3255.revision, .int .i64 x3255.clock, .int .i64 x3255.kind, .str x3255.service, .str x3255.version, .str x3255.operation, .int .i64 x3255.start, .int .i64 x3255.end_, .bool x3255.error, .sl (List.map TAttr.enc x3255.attrs), .sl (List.map TRef.enc x3255.links)])] [] ⟨by kernel_rfl, by kernel_rfl⟩ (by kernel_rfl) (by kernel_rfl) (by kernel_rfl) h841 ⟨by kernel_rfl, by kernel_rfl⟩ (by kernel_rfl) (by kernel_rfl) (by kernel_rfl) ?_
        rintro hR _ _ ⟨r3258, rfl, rfl, h842⟩
        have h := h r3258 h842
        refine ⟨false, (.agg [.d (.str r3258.service), .d (.str r3258.version), .d (.str r3258.operation)], []), (fun hz => (by cases hz)), (by kernel_rfl), ?_⟩
        refine l_det (some 14) (.one (.ref 14 1 0 0), [(14, 1, .row true 39 3 [[.d (.str (⟨#[]⟩ : ByteArray)), .d (.str (⟨#[]⟩ : ByteArray)), .d (.str (⟨#[]⟩ : ByteArray))]])]) (by kernel_rfl) ?_
        refine l_det none (.tup [], [(14, 1, .row true 39 3 [[.d (.str r3258.service), .d (.str r3258.version), .d (.str r3258.operation)]])]) (by kernel_rfl) ?_
        refine l_nil ?_
        refine AW.sregdL follows_mixed [[], [0], [], [2], [], [4], [2, 3, 4, 5], [0, 1, 2, 3, 4, 5, 6], [], [0, 1, 2, 3, 4, 5, 6, 7, 8]] [(0, none), (1, some [42, 1200002]), (2, none), (3, some [44, 1200002]), (4, some [45, 1000013]), (8, some [15]), (5, some [46]), (6, none), (7, none), (9, none)] (by kernel_rfl) ?_
        refine l_det (some 41) (.one (.ref 200002 0 0 1), []) (by kernel_rfl) ?_
        refine l_det (some 42) (.one (.d (.int .i64 x3193.weight)), []) (by kernel_rfl) ?_
        refine l_det (some 43) (.one (.ref 200002 0 0 1), []) (by kernel_rfl) ?_
        refine l_det (some 44) (.one (.d (.int .i64 x3193.weight)), []) (by kernel_rfl) ?_
        refine l_det (some 45) (.agg [.d (.int .i64 x3255.trace), .d (.int .i64 x3255.id), .d (.int .i64 x3255.parent), .d (.int .i64 x3255.revision), .d (.int .i64 x3255.clock), .d (.int .i64 x3255.kind), .d (.str x3255.service), .d (.str x3255.version), .d (.str x3255.operation), .d (.int .i64 x3255.start), .d (.int .i64 x3255.end_), .d (.bool x3255.error), .d (.sl (List.map TAttr.enc x3255.attrs)), .d (.sl (List.map TRef.enc x3255.links))], []) (by kernel_rfl) ?_
        refine l_det (some 15) (.one (.ref 15 1 0 0), [(15, 1, .row true 37 4 [[.d (.int .i64 0), .d (.int .i64 0), .d (.int .i64 0), .d (.int .i64 0)]])]) (by kernel_rfl) ?_
        refine l_call ok38 en38 (some 46) [.agg [.d (.int .i64 x3255.trace), .d (.int .i64 x3255.id), .d (.int .i64 x3255.parent), .d (.int .i64 x3255.revision), .d (.int .i64 x3255.clock), .d (.int .i64 x3255.kind), .d (.str x3255.service), .d (.str x3255.version), .d (.str x3255.operation), .d (.int .i64 x3255.start), .d (.int .i64 x3255.end_), .d (.bool x3255.error), .d (.sl (List.map TAttr.enc x3255.attrs)), .d (.sl (List.map TRef.enc x3255.links))]] [false] [.agg (List.map RC.d [.int .i64 x3255.trace, .int .i64 x3255.id, .int .i64 x3255.parent, .int .i64 x3255.revision, .int .i64 x3255.clock, .int .i64 x3255.kind, .str x3255.service, .str x3255.version, .str x3255.operation, .int .i64 x3255.start, .int .i64 x3255.end_, .bool x3255.error, .sl (List.map TAttr.enc x3255.attrs), .sl (List.map TRef.enc x3255.links)])] [] (by kernel_rfl) ⟨by kernel_rfl, by kernel_rfl⟩ (by kernel_rfl) (by kernel_rfl) (by kernel_rfl) (cl38 x3255 h) ?_
        rintro hR _ _ ⟨r3260, rfl, rfl, h⟩
        refine ⟨false, (.one (.d (.int .i64 r3260)), []), (fun hz => (by cases hz)), (ret_R hR (by kernel_rfl)), ?_⟩
        refine l_det (some 47) (.one (.d (.int .i64 (w64 (x3193.weight * r3260)))), []) (by kernel_rfl) ?_
        refine l_det (some 48) (.agg [.d (.int .i64 x3193.weight), .d (.int .i64 0), .d (.int .i64 (w64 (x3193.weight * r3260))), .d (.int .i64 0)], []) (by kernel_rfl) ?_
        refine l_det none (.tup [], [(15, 1, .row true 37 4 [[.d (.int .i64 x3193.weight), .d (.int .i64 0), .d (.int .i64 (w64 (x3193.weight * r3260))), .d (.int .i64 0)]])]) (by kernel_rfl) ?_
        refine l_nil ?_
        refine AW.seqL (S := Int) (fun s => (fun (v3261 : Int) => [(6, .one (.d r2371.1)), (8, .one (.mpr 200001 0)), (10, .one (.ref 200002 0 0 0)), (11, .one (.mpr 200003 0)), (14, .one (.ref 200004 0 0 0)), (15, .one (.ref 200005 0 0 0)), (24, .one (.d (.sl (List.map TTrace.enc l_14)))), (25, .one (.d (.int .i64 (l_14.length : Int)))), (26, .one (.d (.int .i64 v2968))), (32, .one (.d (.sl (List.map TSpan.enc x3193.spans)))), (33, .one (.d (.int .i64 (x3193.spans.length : Int)))), (34, .one (.d (.int .i64 v3216)))]) s) (fun s => (fun (v3261 : Int) => [(200001, .map true true true (enc2 TGroup.enc TTotal.enc v3214)), (200002, .expl true 53 3 [[.d (.int .i64 x3193.id), .d (.int .i64 x3193.weight), .d (.sl (List.map TSpan.enc x3193.spans))]]), (200003, .map true true false (enc2 TGroup.enc eBool v3215)), (200004, .expl true 39 3 [[.d (.str r3258.service), .d (.str r3258.version), .d (.str r3258.operation)]]), (200005, .expl true 37 4 [[.d (.int .i64 x3193.weight), .d (.int .i64 v3261), .d (.int .i64 (w64 (x3193.weight * r3260))), .d (.int .i64 0)]])]) s) (fun s : Int => J14_3 r3258 v3215 v3214 x3193 r3260 N3241 v3216 s) ?_ ?_
        · refine AW.sregL [(0, none), (1, none)] (by kernel_rfl) ?_
          refine l_det (some 49) (.one (.ref 13 1 0 11), []) (by kernel_rfl) ?_
          refine l_det (some 50) (.one (.d (.bool x3255.error)), []) (by kernel_rfl) ?_
          refine l_nil ?_
          refine AW.cond' (by kernel_rfl) h (fun h => ?_) (fun h => ?_)
          · refine AW.regL [(0, none), (1, none), (2, none), (3, none)] (by kernel_rfl) ?_
            refine l_det (some 51) (.one (.ref 200002 0 0 1), []) (by kernel_rfl) ?_
            refine l_det (some 52) (.one (.d (.int .i64 x3193.weight)), []) (by kernel_rfl) ?_
            refine l_det (some 53) (.one (.ref 15 1 0 1), []) (by kernel_rfl) ?_
            refine l_det none (.tup [], [(15, 1, .row true 37 4 [[.d (.int .i64 x3193.weight), .d (.int .i64 x3193.weight), .d (.int .i64 (w64 (x3193.weight * r3260))), .d (.int .i64 0)]])]) (by kernel_rfl) ?_
            refine l_nil ?_
            refine q_fall ?_
            exact Lab.mk x3193.weight [(200001, some 200001), (200002, some 200002), (200003, some 200003), (200004, some 14), (200005, some 15)] (by kernel_rfl) (by kernel_rfl) (by kernel_rfl) (by kernel_rfl) h
          · refine AW.skip ?_
            refine q_fall ?_
            exact Lab.mk 0 [(200001, some 200001), (200002, some 200002), (200003, some 200003), (200004, some 14), (200005, some 15)] (by kernel_rfl) (by kernel_rfl) (by kernel_rfl) (by kernel_rfl) h
        · rintro v3261 h
          have h : J14_3 r3258 v3215 v3214 x3193 r3260 N3241 v3216 v3261 := h
          unfold J14_3 at h
          refine AW.seqL (S := ((List (TGroup × Bool)) × Int)) (fun s => (fun (v3262 : List (TGroup × Bool)) (v3263 : Int) => [(6, .one (.d r2371.1)), (8, .one (.mpr 200001 0)), (10, .one (.ref 200002 0 0 0)), (11, .one (.mpr 200003 0)), (14, .one (.ref 200004 0 0 0)), (15, .one (.ref 200005 0 0 0)), (24, .one (.d (.sl (List.map TTrace.enc l_14)))), (25, .one (.d (.int .i64 (l_14.length : Int)))), (26, .one (.d (.int .i64 v2968))), (32, .one (.d (.sl (List.map TSpan.enc x3193.spans)))), (33, .one (.d (.int .i64 (x3193.spans.length : Int)))), (34, .one (.d (.int .i64 v3216)))]) s.1 s.2) (fun s => (fun (v3262 : List (TGroup × Bool)) (v3263 : Int) => [(200001, .map true true true (enc2 TGroup.enc TTotal.enc v3214)), (200002, .expl true 53 3 [[.d (.int .i64 x3193.id), .d (.int .i64 x3193.weight), .d (.sl (List.map TSpan.enc x3193.spans))]]), (200003, .map true true false (enc2 TGroup.enc eBool v3262)), (200004, .expl true 39 3 [[.d (.str r3258.service), .d (.str r3258.version), .d (.str r3258.operation)]]), (200005, .expl true 37 4 [[.d (.int .i64 x3193.weight), .d (.int .i64 v3261), .d (.int .i64 (w64 (x3193.weight * r3260))), .d (.int .i64 v3263)]])]) s.1 s.2) (fun s : ((List (TGroup × Bool)) × Int) => J14_4 r3258 v3214 x3193 v3261 r3260 N3241 v3216 s.1 s.2) ?_ ?_
          · refine AW.sregL [(0, none), (1, none), (2, none), (3, none)] (by kernel_rfl) ?_
            refine l_det (some 54) (.one (.mpr 200003 0), []) (by kernel_rfl) ?_
            refine l_det (some 55) (.agg [.d (.str r3258.service), .d (.str r3258.version), .d (.str r3258.operation)], []) (by kernel_rfl) ?_
            refine l_spec (some 56) (.lkp [.s, .s, .s] true false [.bool false] (.t 54) (.t 55) false) (.one (.d (.bool ((alGet r3258 v3215).getD false))), []) (by kernel_rfl) (detA_none (d_lkp (ek := TGroup.enc) (ev := eBool) (va := false) v3215 r3258 false eqk_TGroup (by kernel_rfl) (.inl rfl) (by kernel_rfl) (by kernel_rfl) (by kernel_rfl) (by kernel_rfl) (fun _ _ => rfl))) ?_
            refine l_det (some 57) (.one (.d (.bool (!((alGet r3258 v3215).getD false)))), []) (by kernel_rfl) ?_
            refine l_nil ?_
            refine AW.cond' (by kernel_rfl) h (fun h => ?_) (fun h => ?_)
            · refine AW.regdL follows_mixed [[], [], [], [2], [0, 1], [0, 1, 2, 3, 4], [0, 1, 2, 3, 4, 5]] [(0, none), (1, none), (2, none), (3, some [61, 1200002]), (4, some [200003, 999999]), (5, none), (6, none)] (by kernel_rfl) ?_
              refine l_det (some 58) (.one (.mpr 200003 0), []) (by kernel_rfl) ?_
              refine l_det (some 59) (.agg [.d (.str r3258.service), .d (.str r3258.version), .d (.str r3258.operation)], []) (by kernel_rfl) ?_
              refine l_det (some 60) (.one (.ref 200002 0 0 1), []) (by kernel_rfl) ?_
              refine l_det (some 61) (.one (.d (.int .i64 x3193.weight)), []) (by kernel_rfl) ?_
              refine l_spec none (.mup [.s, .s, .s] true (.t 58) (.t 59) (.c (.bool true))) (.tup [], [(200003, 0, .map true true false (enc2 TGroup.enc eBool (alPut r3258 true v3215)))]) (by kernel_rfl) (detA_some (d_mup (ek := TGroup.enc) (ev := eBool) v3215 r3258 true eqk_TGroup (by kernel_rfl) (by kernel_rfl) (by kernel_rfl) (by kernel_rfl) (by kernel_rfl) (by kernel_rfl) (by kernel_rfl) (by kernel_rfl)) (by kernel_rfl)) ?_
              refine l_det (some 62) (.one (.ref 200005 0 0 3), []) (by kernel_rfl) ?_
              refine l_det none (.tup [], [(200005, 0, .row true 37 4 [[.d (.int .i64 x3193.weight), .d (.int .i64 v3261), .d (.int .i64 (w64 (x3193.weight * r3260))), .d (.int .i64 x3193.weight)]])]) (by kernel_rfl) ?_
              refine l_nil ?_
              refine q_fall ?_
              exact Lab.mk ((alPut r3258 true v3215), x3193.weight) [(200001, some 200001), (200002, some 200002), (200003, some 200003), (200004, some 200004), (200005, some 200005)] (by kernel_rfl) (by kernel_rfl) (by kernel_rfl) (by kernel_rfl) h
            · refine AW.skip ?_
              refine q_fall ?_
              exact Lab.mk (v3215, 0) [(200001, some 200001), (200002, some 200002), (200003, some 200003), (200004, some 200004), (200005, some 200005)] (by kernel_rfl) (by kernel_rfl) (by kernel_rfl) (by kernel_rfl) h
          · rintro ⟨v3262, v3263⟩ h
            have h : J14_4 r3258 v3214 x3193 v3261 r3260 N3241 v3216 v3262 v3263 := h
            unfold J14_4 at h
            refine AW.regdL follows_mixed [[], [], [], [], [2, 3], [], [2, 3, 4, 5], [0, 1, 2, 3, 4, 5, 6]] [(0, none), (1, some [64, 1200004]), (2, none), (3, none), (4, none), (5, none), (6, some [69]), (7, none)] (by kernel_rfl) ?_
            refine l_det (some 63) (.one (.mpr 200001 0), []) (by kernel_rfl) ?_
            refine l_det (some 64) (.agg [.d (.str r3258.service), .d (.str r3258.version), .d (.str r3258.operation)], []) (by kernel_rfl) ?_
            refine l_det (some 65) (.one (.mpr 200001 0), []) (by kernel_rfl) ?_
            refine l_det (some 66) (.agg [.d (.str r3258.service), .d (.str r3258.version), .d (.str r3258.operation)], []) (by kernel_rfl) ?_
            refine l_spec (some 67) (.lkp [.s, .s, .s] true true [.int .i64 0, .int .i64 0, .int .i64 0, .int .i64 0] (.t 65) (.t 66) false) (.agg [.d (.int .i64 (((alGet r3258 v3214).getD (TTotal.mk 0 0 0 0)).spans)), .d (.int .i64 (((alGet r3258 v3214).getD (TTotal.mk 0 0 0 0)).errors)), .d (.int .i64 (((alGet r3258 v3214).getD (TTotal.mk 0 0 0 0)).duration)), .d (.int .i64 (((alGet r3258 v3214).getD (TTotal.mk 0 0 0 0)).traces))], []) (by kernel_rfl) (detA_none (d_lkp (ek := TGroup.enc) (ev := TTotal.enc) (va := true) v3214 r3258 (TTotal.mk 0 0 0 0) eqk_TGroup (by kernel_rfl) (.inl rfl) (by kernel_rfl) (by kernel_rfl) (by kernel_rfl) (by kernel_rfl) (fun h => by cases h))) ?_
            refine l_det (some 68) (.agg [.d (.int .i64 x3193.weight), .d (.int .i64 v3261), .d (.int .i64 (w64 (x3193.weight * r3260))), .d (.int .i64 v3263)], []) (by kernel_rfl) ?_
            refine l_call ok39 en39 (some 69) [.agg [.d (.int .i64 (((alGet r3258 v3214).getD (TTotal.mk 0 0 0 0)).spans)), .d (.int .i64 (((alGet r3258 v3214).getD (TTotal.mk 0 0 0 0)).errors)), .d (.int .i64 (((alGet r3258 v3214).getD (TTotal.mk 0 0 0 0)).duration)), .d (.int .i64 (((alGet r3258 v3214).getD (TTotal.mk 0 0 0 0)).traces))], .agg [.d (.int .i64 x3193.weight), .d (.int .i64 v3261), .d (.int .i64 (w64 (x3193.weight * r3260))), .d (.int .i64 v3263)]] [false, false] [.agg (List.map RC.d [.int .i64 (((alGet r3258 v3214).getD (TTotal.mk 0 0 0 0)).spans), .int .i64 (((alGet r3258 v3214).getD (TTotal.mk 0 0 0 0)).errors), .int .i64 (((alGet r3258 v3214).getD (TTotal.mk 0 0 0 0)).duration), .int .i64 (((alGet r3258 v3214).getD (TTotal.mk 0 0 0 0)).traces)]), .agg (List.map RC.d [.int .i64 x3193.weight, .int .i64 v3261, .int .i64 (w64 (x3193.weight * r3260)), .int .i64 v3263])] [] (by kernel_rfl) ⟨by kernel_rfl, by kernel_rfl⟩ (by kernel_rfl) (by kernel_rfl) (by kernel_rfl) (cl39 (TTotal.mk (((alGet r3258 v3214).getD (TTotal.mk 0 0 0 0)).spans) (((alGet r3258 v3214).getD (TTotal.mk 0 0 0 0)).errors) (((alGet r3258 v3214).getD (TTotal.mk 0 0 0 0)).duration) (((alGet r3258 v3214).getD (TTotal.mk 0 0 0 0)).traces)) (TTotal.mk x3193.weight v3261 (w64 (x3193.weight * r3260)) v3263) h) ?_
            rintro hR _ _ ⟨r3264, rfl, rfl, h⟩
            refine ⟨false, (.agg [.d (.int .i64 r3264.spans), .d (.int .i64 r3264.errors), .d (.int .i64 r3264.duration), .d (.int .i64 r3264.traces)], []), (fun hz => (by cases hz)), (ret_R hR (by kernel_rfl)), ?_⟩
            refine l_spec none (.mup [.s, .s, .s] true (.t 63) (.t 64) (.t 69)) (.tup [], [(200001, 0, .map true true true (enc2 TGroup.enc TTotal.enc (alPut r3258 r3264 v3214)))]) (by kernel_rfl) (detA_none (d_mup (ek := TGroup.enc) (ev := TTotal.enc) v3214 r3258 r3264 eqk_TGroup (by kernel_rfl) (by kernel_rfl) (by kernel_rfl) (by kernel_rfl) (by kernel_rfl) (by kernel_rfl) (by kernel_rfl) (by kernel_rfl))) ?_
            refine l_nil ?_
            refine q_bfall ?_
            refine q_fall ?_
            refine AW.regL [(0, none), (1, none)] (by kernel_rfl) ?_
            refine l_det (some 70) (.one (.d (.int .i64 (w64 (v3216 + 1)))), []) (by kernel_rfl) ?_
            refine l_det (some 34) (.one (.d (.int .i64 (w64 (v3216 + 1)))), []) (by kernel_rfl) ?_
            refine l_nil ?_
            refine q_fall ?_
            exact Lab.mk ((alPut r3258 r3264 v3214), v3262, (w64 (v3216 + 1))) [(200001, some 200001), (200002, some 200002), (200003, some 200003)] (by kernel_rfl) (by kernel_rfl) (by kernel_rfl) (by kernel_rfl) h
      · refine AW.exit ?_
        refine q_exit ?_
        refine q_exit ?_
        refine q_bhere ?_
        refine q_bfall ?_
        refine q_fall ?_
        refine AW.regL [(0, none), (1, none)] (by kernel_rfl) ?_
        refine l_det (some 71) (.one (.d (.int .i64 (w64 (v2968 + 1)))), []) (by kernel_rfl) ?_
        refine l_det (some 26) (.one (.d (.int .i64 (w64 (v2968 + 1)))), []) (by kernel_rfl) ?_
        refine l_nil ?_
        refine q_fall ?_
        exact Lab.mk (v3214, (w64 (v2968 + 1))) [(200001, some 200001)] (by kernel_rfl) (by kernel_rfl) (by kernel_rfl) (by kernel_rfl) h
    · refine AW.exit ?_
      refine q_exit ?_
      refine q_exit ?_
      refine q_bhere ?_
      refine q_fall ?_
      refine AW.sregL [(0, none), (1, none), (2, none), (3, none)] (by kernel_rfl) ?_
      refine l_det (some 72) (.one (.mpr 200001 0), []) (by kernel_rfl) ?_
      refine l_call ok40 en40 (some 73) [.one (.mpr 200001 0)] [false] [.one (.d (.mp true true (enc2 TGroup.enc TTotal.enc v2967)))] [200001] (by kernel_rfl) ⟨by kernel_rfl, by kernel_rfl⟩ (by kernel_rfl) (by kernel_rfl) (by kernel_rfl) (cl40 v2967 h) ?_
      rintro hR _ _ ⟨r3839, rfl, rfl, h⟩
      refine ⟨false, (.one (.view 73 1 0 ((List.map TLine.enc r3839).length)), [(200001, 0, .map false true true (enc2 TGroup.enc TTotal.enc v2967)), (73, 1, .row true 41 7 (dmm (List.map TLine.enc r3839)))]), (fun hz => (by cases hz)), (ret_R hR (by kernel_rfl)), ?_⟩
      refine l_det (some 4) (.one (.view 73 1 0 ((List.map TLine.enc r3839).length)), []) (by kernel_rfl) ?_
      refine l_det (some 5) (.one (.d (.int .i64 0)), []) (by kernel_rfl) ?_
      refine l_nil ?_
      refine AW.ret ?_
      exact q_end [.one (.view 73 1 0 ((List.map TLine.enc r3839).length)), .one (.d (.int .i64 0))] [true, false] [.one (.own 41 7 (List.map TLine.enc r3839)), .one (.d (.int .i64 0))] [] [] (by kernel_rfl) (ps_own (by kernel_rfl) (by kernel_rfl) rfl (ps_plain (pv_one pf_d) ps_nil)) (by kernel_rfl) (by kernel_rfl) (by kernel_rfl) (by kernel_rfl) (Eq.mp (by kernel_rfl) (hK (r3839, 0) h)) (.inr rfl)
def r36_0 : List AR := [⟨some 0, .mov (.c .nils), [], none⟩]
def r36_1 : List AR := [⟨some 1, .bld [.int .i64 0, .int .i64 0, .int .i64 0, .int .i64 0, .int .i64 0, .int .i64 0, .str ⟨#[]⟩, .str ⟨#[]⟩, .str ⟨#[]⟩, .int .i64 0, .int .i64 0, .bool false, .nils, .nils] [(0, 1, .c (.int .i64 5)), (1, 1, .c (.int .i64 1)), (4, 1, .c (.int .i64 1)), (5, 1, .c (.int .i64 3)), (6, 1, .c (.str ⟨#[97, 112, 105]⟩)), (7, 1, .c (.str ⟨#[118, 49]⟩)), (8, 1, .c (.str ⟨#[103, 101, 116]⟩)), (10, 1, .c (.int .i64 10))], [], none⟩,
  ⟨some 2, .bld [.int .i64 0, .int .i64 0, .int .i64 0, .int .i64 0, .int .i64 0, .int .i64 0, .str ⟨#[]⟩, .str ⟨#[]⟩, .str ⟨#[]⟩, .int .i64 0, .int .i64 0, .bool false, .nils, .nils] [(0, 1, .c (.int .i64 5)), (1, 1, .c (.int .i64 2)), (4, 1, .c (.int .i64 1)), (5, 1, .c (.int .i64 3)), (6, 1, .c (.str ⟨#[97, 112, 105]⟩)), (7, 1, .c (.str ⟨#[118, 50]⟩)), (8, 1, .c (.str ⟨#[103, 101, 116]⟩)), (9, 1, .c (.int .i64 3)), (10, 1, .c (.int .i64 8)), (11, 1, .c (.bool true))], [], none⟩,
  ⟨some 3, .bsl 58 14 2 [.int .i64 0, .int .i64 0, .int .i64 0, .int .i64 0, .int .i64 0, .int .i64 0, .str ⟨#[]⟩, .str ⟨#[]⟩, .str ⟨#[]⟩, .int .i64 0, .int .i64 0, .bool false, .nils, .nils] [(0, .t 1), (1, .t 2)], [0, 1], none⟩,
  ⟨some 4, .bld [.int .i64 0, .int .i64 0, .nils] [(0, 1, .c (.int .i64 5)), (1, 1, .c (.int .i64 4)), (2, 1, .t 3)], [2], none⟩,
  ⟨some 5, .bsl 53 3 1 [.int .i64 0, .int .i64 0, .nils] [(0, .t 4)], [3], none⟩,
  ⟨some 0, .mov (.t 5), [4, 0, 1, 2, 3, 4], none⟩]
def c36 : ACode := .seq (.reg r36_0 false) (.seq (.reg r36_1 false) (.ret))
theorem body36 : Try.f36.body.map (comp Try.prog 6) = some c36 := by kernel_rfl
theorem res36 : allSome (Try.f36.results.toList.map (compRes Try.prog)) = some [.s 0] := by kernel_rfl
theorem cok36 {S : FSpec} (h : ∀ args K, S args K → args.all argOk = true ∧ args.length ≤ 6 ∧ AW Try.prog 6 (some ownP) c36 (initS args) (retPost [.s 0] args K)) : COK Try.prog 36 S := of_body Try.func36 Try.ntmps36 body36 res36 h

/-- sleuth/sleuthlaw25.example -/
def W36 (K : (List TTrace) → Prop) : Prop :=
  K [(TTrace.mk 5 4 [(TSpan.mk 5 1 0 0 1 3 (⟨#[97, 112, 105]⟩ : ByteArray) (⟨#[118, 49]⟩ : ByteArray) (⟨#[103, 101, 116]⟩ : ByteArray) 0 10 false [] []), (TSpan.mk 5 2 0 0 1 3 (⟨#[97, 112, 105]⟩ : ByteArray) (⟨#[118, 50]⟩ : ByteArray) (⟨#[103, 101, 116]⟩ : ByteArray) 3 8 true [] [])])]

def S36 : FSpec := fun args K => ∃ (Kr : (List TTrace) → Prop), args = [] ∧ W36  Kr ∧ ∀ r, Kr r → K (.one (.d (.sl (List.map TTrace.enc r)))) []

theorem en36 : enters Try.prog 36 = true := by unfold enters; rw [Try.func36]; rfl
theorem cl36 {Kr : (List TTrace) → Prop} (h : W36  Kr) : S36 [] (fun rv rows => ∃ r, rv = (.one (.d (.sl (List.map TTrace.enc r)))) ∧ rows = [] ∧ Kr r) := ⟨Kr, rfl, h, fun r hr => ⟨r, rfl, rfl, hr⟩⟩

theorem ok36 : COK Try.prog 36 S36 := by
  refine cok36 fun args K0 hS => ?_
  obtain ⟨K, rfl, h, hK⟩ := hS
  refine ⟨by kernel_rfl, by simp, ?_⟩
  unfold W36 at h
  refine AW.sregL [(0, none)] (by kernel_rfl) ?_
  refine l_det (some 0) (.one (.nils), []) (by kernel_rfl) ?_
  refine l_nil ?_
  refine AW.sregL [(0, none), (1, none), (2, none), (3, none), (4, none), (5, none)] (by kernel_rfl) ?_
  refine l_det (some 1) (.agg [.d (.int .i64 5), .d (.int .i64 1), .d (.int .i64 0), .d (.int .i64 0), .d (.int .i64 1), .d (.int .i64 3), .d (.str (⟨#[97, 112, 105]⟩ : ByteArray)), .d (.str (⟨#[118, 49]⟩ : ByteArray)), .d (.str (⟨#[103, 101, 116]⟩ : ByteArray)), .d (.int .i64 0), .d (.int .i64 10), .d (.bool false), .nils, .nils], []) (by kernel_rfl) ?_
  refine l_det (some 2) (.agg [.d (.int .i64 5), .d (.int .i64 2), .d (.int .i64 0), .d (.int .i64 0), .d (.int .i64 1), .d (.int .i64 3), .d (.str (⟨#[97, 112, 105]⟩ : ByteArray)), .d (.str (⟨#[118, 50]⟩ : ByteArray)), .d (.str (⟨#[103, 101, 116]⟩ : ByteArray)), .d (.int .i64 3), .d (.int .i64 8), .d (.bool true), .nils, .nils], []) (by kernel_rfl) ?_
  refine l_det (some 3) (.one (.view 3 1 0 2), [(3, 1, .row true 58 14 [[.d (.int .i64 5), .d (.int .i64 1), .d (.int .i64 0), .d (.int .i64 0), .d (.int .i64 1), .d (.int .i64 3), .d (.str (⟨#[97, 112, 105]⟩ : ByteArray)), .d (.str (⟨#[118, 49]⟩ : ByteArray)), .d (.str (⟨#[103, 101, 116]⟩ : ByteArray)), .d (.int .i64 0), .d (.int .i64 10), .d (.bool false), .nils, .nils], [.d (.int .i64 5), .d (.int .i64 2), .d (.int .i64 0), .d (.int .i64 0), .d (.int .i64 1), .d (.int .i64 3), .d (.str (⟨#[97, 112, 105]⟩ : ByteArray)), .d (.str (⟨#[118, 50]⟩ : ByteArray)), .d (.str (⟨#[103, 101, 116]⟩ : ByteArray)), .d (.int .i64 3), .d (.int .i64 8), .d (.bool true), .nils, .nils]])]) (by kernel_rfl) ?_
  refine l_det (some 4) (.agg [.d (.int .i64 5), .d (.int .i64 4), .view 3 1 0 2], []) (by kernel_rfl) ?_
  refine l_det (some 5) (.one (.view 5 1 0 1), [(5, 1, .row true 53 3 [[.d (.int .i64 5), .d (.int .i64 4), .view 3 1 0 2]])]) (by kernel_rfl) ?_
  refine l_det (some 0) (.one (.view 5 1 0 1), []) (by kernel_rfl) ?_
  refine l_nil ?_
  refine AW.ret ?_
  exact q_end [.one (.view 5 1 0 1)] [false] [.one (.d (.sl [[.int .i64 5, .int .i64 4, .sl [[.int .i64 5, .int .i64 1, .int .i64 0, .int .i64 0, .int .i64 1, .int .i64 3, .str (⟨#[97, 112, 105]⟩ : ByteArray), .str (⟨#[118, 49]⟩ : ByteArray), .str (⟨#[103, 101, 116]⟩ : ByteArray), .int .i64 0, .int .i64 10, .bool false, .sl [], .sl []], [.int .i64 5, .int .i64 2, .int .i64 0, .int .i64 0, .int .i64 1, .int .i64 3, .str (⟨#[97, 112, 105]⟩ : ByteArray), .str (⟨#[118, 50]⟩ : ByteArray), .str (⟨#[103, 101, 116]⟩ : ByteArray), .int .i64 3, .int .i64 8, .bool true, .sl [], .sl []]]]]))] [] [5, 3] (by kernel_rfl) ⟨by kernel_rfl, by kernel_rfl⟩ (by kernel_rfl) (by kernel_rfl) (by kernel_rfl) (by kernel_rfl) (Eq.mp (by kernel_rfl) (hK [(TTrace.mk 5 4 [(TSpan.mk 5 1 0 0 1 3 (⟨#[97, 112, 105]⟩ : ByteArray) (⟨#[118, 49]⟩ : ByteArray) (⟨#[103, 101, 116]⟩ : ByteArray) 0 10 false [] []), (TSpan.mk 5 2 0 0 1 3 (⟨#[97, 112, 105]⟩ : ByteArray) (⟨#[118, 50]⟩ : ByteArray) (⟨#[103, 101, 116]⟩ : ByteArray) 3 8 true [] [])])] h)) (.inr rfl)
def r12_0 : List AR := [⟨some 0, .mov (.c (.bool false)), [], none⟩]
def r12_1 : List AR := [⟨some 10, .call 36 [], [], none⟩,
  ⟨some 11, .call 14 [.t 10, .c (.int .i64 1)], [0, 0], none⟩,
  ⟨some 9, .mov (.t 11), [1], none⟩,
  ⟨some 12, .ext (.t 9) 0, [2], none⟩,
  ⟨some 13, .ext (.t 9) 1, [2], none⟩,
  ⟨some 1, .mov (.t 12), [3, 1, 0, 1, 2, 3], none⟩,
  ⟨some 2, .mov (.t 13), [4, 5, 0, 1, 2, 3, 4, 5], none⟩]
def r12_2 : List AR := [⟨some 15, .call 36 [], [], none⟩,
  ⟨some 16, .call 14 [.t 15, .c (.int .i64 2)], [0, 0], none⟩,
  ⟨some 14, .mov (.t 16), [1], none⟩,
  ⟨some 17, .ext (.t 14) 0, [2], none⟩,
  ⟨some 18, .ext (.t 14) 1, [2], none⟩,
  ⟨some 3, .mov (.t 17), [3, 1, 0, 1, 2, 3], none⟩,
  ⟨some 4, .mov (.t 18), [4, 5, 0, 1, 2, 3, 4, 5], none⟩]
def r12_3 : List AR := [⟨some 19, .bld [.int .i64 0, .int .i64 0, .nils] [(0, 1, .c (.int .i64 3)), (1, 1, .c (.int .i64 1))], [], none⟩,
  ⟨some 5, .alloc 53 true [.int .i64 0, .int .i64 0, .nils], [], none⟩,
  ⟨none, .st 3 (.t 5) (.t 19), [1, 0, 0, 1], none⟩]
def r12_4 : List AR := [⟨some 6, .mov (.c (.int .i64 1)), [], none⟩]
def r12_5 : List AR := [⟨some 20, .mov (.t 6), [], none⟩,
  ⟨some 21, .bin .leq (.t 20) (.c (.int .i64 4)), [0], none⟩]
def r12_6 : List AR := [⟨some 24, .fad (.t 5) 2, [], none⟩,
  ⟨some 25, .ld false 1 (.t 24), [0], none⟩,
  ⟨some 26, .mov (.t 6), [], none⟩,
  ⟨some 27, .bsl 9 1 4 [.str ⟨#[]⟩] [(0, .c (.str ⟨#[115]⟩)), (1, .c (.str ⟨#[115]⟩)), (2, .c (.str ⟨#[116]⟩)), (3, .c (.str ⟨#[115]⟩))], [], none⟩,
  ⟨some 28, .mov (.t 6), [], none⟩,
  ⟨some 29, .bin .sub (.t 28) (.c (.int .i64 1)), [4], none⟩,
  ⟨some 30, .iad 1 (.t 27) (.t 29), [3, 5], none⟩,
  ⟨some 31, .ld false 1 (.t 30), [6], none⟩,
  ⟨some 32, .bld [.int .i64 0, .int .i64 0, .int .i64 0, .int .i64 0, .int .i64 0, .int .i64 0, .str ⟨#[]⟩, .str ⟨#[]⟩, .str ⟨#[]⟩, .int .i64 0, .int .i64 0, .bool false, .nils, .nils] [(0, 1, .c (.int .i64 3)), (1, 1, .t 26), (4, 1, .c (.int .i64 1)), (5, 1, .c (.int .i64 3)), (6, 1, .t 31), (8, 1, .c (.str ⟨#[111]⟩))], [2, 7], none⟩,
  ⟨some 33, .bsl 58 14 1 [.int .i64 0, .int .i64 0, .int .i64 0, .int .i64 0, .int .i64 0, .int .i64 0, .str ⟨#[]⟩, .str ⟨#[]⟩, .str ⟨#[]⟩, .int .i64 0, .int .i64 0, .bool false, .nils, .nils] [(0, .t 32)], [8], none⟩,
  ⟨some 34, .app 58 14 168 [.int .i64 0, .int .i64 0, .int .i64 0, .int .i64 0, .int .i64 0, .int .i64 0, .str ⟨#[]⟩, .str ⟨#[]⟩, .str ⟨#[]⟩, .int .i64 0, .int .i64 0, .bool false, .nils, .nils] (.t 25) (.t 33), [1, 9], none⟩,
  ⟨some 35, .fad (.t 5) 2, [0, 1, 2, 3, 4, 5, 6, 7, 8, 9, 10], none⟩,
  ⟨none, .st 1 (.t 35) (.t 34), [11, 10, 10, 0, 1, 2, 3, 4, 5, 6, 7, 8, 9, 10], none⟩]
def r12_7 : List AR := [⟨some 22, .mov (.t 6), [], none⟩,
  ⟨some 23, .bin .add (.t 22) (.c (.int .i64 1)), [0], none⟩,
  ⟨some 6, .mov (.t 23), [1, 0, 1], none⟩]
def r12_8 : List AR := [⟨some 37, .ld true 3 (.t 5), [], none⟩,
  ⟨some 38, .bsl 53 3 1 [.int .i64 0, .int .i64 0, .nils] [(0, .t 37)], [0], none⟩,
  ⟨some 39, .bld [.int .i64 0, .str ⟨#[]⟩, .int .i64 0, .int .i64 0] [(1, 1, .c (.str ⟨#[115]⟩)), (2, 1, .c (.int .i64 10))], [], none⟩,
  ⟨some 40, .bsl 60 4 1 [.int .i64 0, .str ⟨#[]⟩, .int .i64 0, .int .i64 0] [(0, .t 39)], [2], none⟩,
  ⟨some 41, .bld [.int .i64 0, .int .i64 0] [(1, 1, .c (.int .i64 2))], [], none⟩,
  ⟨some 42, .bsl 62 2 1 [.int .i64 0, .int .i64 0] [(0, .t 41)], [4], none⟩,
  ⟨some 43, .bld [.nils, .nils, .nils, .nils] [(0, 1, .t 38), (2, 1, .t 40), (3, 1, .t 42)], [1, 3, 5], none⟩,
  ⟨some 44, .call 19 [.t 43, .c (.int .i64 0), .c (.str ⟨#[115]⟩)], [6], none⟩,
  ⟨some 36, .mov (.t 44), [7], none⟩,
  ⟨some 45, .ext (.t 36) 0, [8], none⟩,
  ⟨some 46, .ext (.t 36) 1, [8], none⟩,
  ⟨some 7, .mov (.t 45), [9, 7, 0, 1, 2, 3, 4, 5, 6, 7, 8, 9], none⟩,
  ⟨some 8, .mov (.t 46), [10, 11, 0, 1, 2, 3, 4, 5, 6, 7, 8, 9, 10, 11], none⟩]
def r12_9 : List AR := [⟨some 47, .mov (.t 2), [], none⟩,
  ⟨some 48, .bin .eql (.t 47) (.c (.int .i64 0)), [0], none⟩,
  ⟨some 49, .mov (.t 48), [1], none⟩,
  ⟨some 50, .mov (.t 4), [2], some (49, true)⟩,
  ⟨some 51, .bin .eql (.t 50) (.c (.int .i64 0)), [3, 2], some (49, true)⟩,
  ⟨some 52, .pick (.t 49) (.t 51) (.c (.bool false)), [2, 4], none⟩,
  ⟨some 53, .mov (.t 52), [5, 2], none⟩,
  ⟨some 54, .mov (.t 1), [6], some (53, true)⟩,
  ⟨some 55, .lens (.t 54), [7, 6], some (53, true)⟩,
  ⟨some 56, .bin .eql (.t 55) (.c (.int .i64 1)), [8, 6], some (53, true)⟩,
  ⟨some 57, .pick (.t 53) (.t 56) (.c (.bool false)), [6, 9], none⟩,
  ⟨some 58, .mov (.t 57), [10, 6], none⟩,
  ⟨some 59, .mov (.t 1), [11], some (58, true)⟩,
  ⟨some 60, .iad 7 (.t 59) (.c (.int .i64 0)), [12, 11], some (58, true)⟩,
  ⟨some 61, .fad (.t 60) 3, [13, 11], some (58, true)⟩,
  ⟨some 62, .ld true 4 (.t 61), [14, 11], some (58, true)⟩,
  ⟨some 63, .bld [.int .i64 0, .int .i64 0, .int .i64 0, .int .i64 0] [(0, 1, .c (.int .i64 8)), (1, 1, .c (.int .i64 4)), (2, 1, .c (.int .i64 60)), (3, 1, .c (.int .i64 4))], [11], some (58, true)⟩,
  ⟨some 64, .eqs false [.i, .i, .i, .i] (.t 62) (.t 63), [15, 16, 11], some (58, true)⟩,
  ⟨some 65, .pick (.t 58) (.t 64) (.c (.bool false)), [11, 17], none⟩,
  ⟨some 66, .mov (.t 65), [18, 11], none⟩,
  ⟨some 67, .mov (.t 3), [19], some (66, true)⟩,
  ⟨some 68, .lens (.t 67), [20, 19], some (66, true)⟩,
  ⟨some 69, .bin .eql (.t 68) (.c (.int .i64 2)), [21, 19], some (66, true)⟩,
  ⟨some 70, .pick (.t 66) (.t 69) (.c (.bool false)), [19, 22], none⟩,
  ⟨some 71, .mov (.t 70), [23, 19], none⟩,
  ⟨some 72, .mov (.t 3), [24], some (71, true)⟩,
  ⟨some 73, .iad 7 (.t 72) (.c (.int .i64 1)), [25, 24], some (71, true)⟩,
  ⟨some 74, .ld true 7 (.t 73), [26, 24], some (71, true)⟩,
  ⟨some 75, .bld [.str ⟨#[]⟩, .str ⟨#[]⟩, .str ⟨#[]⟩] [(0, 1, .c (.str ⟨#[97, 112, 105]⟩)), (1, 1, .c (.str ⟨#[118, 50]⟩))], [24], some (71, true)⟩,
  ⟨some 76, .bld [.int .i64 0, .int .i64 0, .int .i64 0, .int .i64 0] [(0, 1, .c (.int .i64 4)), (1, 1, .c (.int .i64 4)), (2, 1, .c (.int .i64 20)), (3, 1, .c (.int .i64 4))], [24], some (71, true)⟩,
  ⟨some 77, .bld [.str ⟨#[]⟩, .str ⟨#[]⟩, .str ⟨#[]⟩, .int .i64 0, .int .i64 0, .int .i64 0, .int .i64 0] [(0, 3, .t 75), (3, 4, .t 76)], [28, 29, 24], some (71, true)⟩,
  ⟨some 78, .eqs false [.s, .s, .s, .i, .i, .i, .i] (.t 74) (.t 77), [27, 30, 24], some (71, true)⟩,
  ⟨some 79, .pick (.t 71) (.t 78) (.c (.bool false)), [24, 31], none⟩,
  ⟨some 80, .mov (.t 79), [32, 24], none⟩,
  ⟨some 81, .mov (.t 7), [33], some (80, true)⟩,
  ⟨some 82, .bin .eql (.t 81) (.c (.int .i64 11)), [34, 33], some (80, true)⟩,
  ⟨some 83, .pick (.t 80) (.t 82) (.c (.bool false)), [33, 35], none⟩,
  ⟨some 84, .mov (.t 83), [36, 33], none⟩,
  ⟨some 85, .mov (.t 8), [37], some (84, true)⟩,
  ⟨some 86, .bin .eql (.t 85) (.c (.int .i64 15)), [38, 37], some (84, true)⟩,
  ⟨some 87, .pick (.t 84) (.t 86) (.c (.bool false)), [37, 39], none⟩,
  ⟨some 0, .mov (.t 87), [40, 37, 0, 1, 2, 3, 4, 5, 6, 7, 8, 9, 10, 11, 12, 13, 14, 15, 16, 17, 18, 19, 20, 21, 22, 23, 24, 25, 26, 27, 28, 29, 30, 31, 32, 33, 34, 35, 36, 37, 38, 39, 40], none⟩]
def c12 : ACode := .seq (.reg r12_0 false) (.seq (.reg r12_1 false) (.seq (.reg r12_2 false) (.seq (.reg r12_3 false) (.seq (.seq (.reg r12_4 false) (.blk 0 (.loop (.seq (.seq (.reg r12_5 false) (.cond (.t 21) (.skip) (.exit 0))) (.seq (.blk 1 (.reg r12_6 true)) (.reg r12_7 false)))))) (.seq (.reg r12_8 false) (.seq (.reg r12_9 false) (.ret)))))))
theorem body12 : Try.f12.body.map (comp Try.prog 88) = some c12 := by kernel_rfl
theorem res12 : allSome (Try.f12.results.toList.map (compRes Try.prog)) = some [.s 0] := by kernel_rfl
theorem cok12 {S : FSpec} (h : ∀ args K, S args K → args.all argOk = true ∧ args.length ≤ 88 ∧ AW Try.prog 88 (some ownP) c12 (initS args) (retPost [.s 0] args K)) : COK Try.prog 12 S := of_body Try.func12 Try.ntmps12 body12 res12 h

def J12_2 (K : Bool → Prop) (v3868 : Bool) : Prop :=
  K v3868

def L12_1 (r3843 : ((List TLine) × Int)) (r3847 : ((List TLine) × Int)) (K : Bool → Prop) (v3855 : List TSpan) (v3856 : Int) (N3859 : ((List TSpan) × Int) → Prop) : Prop :=
  Cond (decide (v3856 ≤ 4)) (Idx [(⟨#[115]⟩ : ByteArray), (⟨#[115]⟩ : ByteArray), (⟨#[116]⟩ : ByteArray), (⟨#[115]⟩ : ByteArray)] (w64 (v3856 - 1)) fun x3861 => Fits ((v3855 ++ [(TSpan.mk 3 v3856 0 0 1 3 x3861 (⟨#[]⟩ : ByteArray) (⟨#[111]⟩ : ByteArray) 0 0 false [] [])]).length * 168) (N3859 ((v3855 ++ [(TSpan.mk 3 v3856 0 0 1 3 x3861 (⟨#[]⟩ : ByteArray) (⟨#[111]⟩ : ByteArray) 0 0 false [] [])]), (w64 (v3856 + 1))))) (W19 (TRetained.mk [(TTrace.mk 3 1 v3855)] [] [(TRemoved.mk 0 (⟨#[115]⟩ : ByteArray) 10 0)] [(TLate.mk 0 2)]) 0 (⟨#[115]⟩ : ByteArray) fun r3863 => Cond (decide (r3843.2 = 0)) (Cond (decide (r3847.2 = 0)) (Cond (decide ((r3843.1.length : Int) = 1)) (Idx r3843.1 0 fun x3869 => Cond (decide (x3869.total.spans = 8) && (decide (x3869.total.errors = 4) && (decide (x3869.total.duration = 60) && (decide (x3869.total.traces = 4) && true)))) (Cond (decide ((r3847.1.length : Int) = 2)) (Idx r3847.1 1 fun x3870 => Cond (decide (x3870.group.service = (⟨#[97, 112, 105]⟩ : ByteArray)) && (decide (x3870.group.version = (⟨#[118, 50]⟩ : ByteArray)) && (decide (x3870.group.operation = (⟨#[]⟩ : ByteArray)) && (decide (x3870.total.spans = 4) && (decide (x3870.total.errors = 4) && (decide (x3870.total.duration = 20) && (decide (x3870.total.traces = 4) && true))))))) (Cond (decide (r3863.1 = 11)) (J12_2 K (decide (r3863.2 = 15))) (J12_2 K false)) (J12_2 K false)) (J12_2 K false)) (J12_2 K false)) (J12_2 K false)) (J12_2 K false)) (J12_2 K false))

/-- sleuth/sleuthlaw25.known -/
def W12 (K : Bool → Prop) : Prop :=
  W36  fun r3842 => W14 r3842 1 fun r3843 => W36  fun r3846 => W14 r3846 2 fun r3847 => LoopW (fun (s : ((List TSpan) × Int)) N3859 => L12_1 r3843 r3847 K s.1 s.2 N3859) ([], 1)

def S12 : FSpec := fun args K => ∃ (Kr : Bool → Prop), args = [] ∧ W12  Kr ∧ ∀ r, Kr r → K (.one (.d (.bool r))) []

theorem en12 : enters Try.prog 12 = true := by unfold enters; rw [Try.func12]; rfl
theorem cl12 {Kr : Bool → Prop} (h : W12  Kr) : S12 [] (fun rv rows => ∃ r, rv = (.one (.d (.bool r))) ∧ rows = [] ∧ Kr r) := ⟨Kr, rfl, h, fun r hr => ⟨r, rfl, rfl, hr⟩⟩

theorem ok12 : COK Try.prog 12 S12 := by
  refine cok12 fun args K0 hS => ?_
  obtain ⟨K, rfl, h, hK⟩ := hS
  refine ⟨by kernel_rfl, by simp, ?_⟩
  unfold W12 at h
  refine AW.sregL [(0, none)] (by kernel_rfl) ?_
  refine l_det (some 0) (.one (.d (.bool false)), []) (by kernel_rfl) ?_
  refine l_nil ?_
  refine AW.sregL [(0, none), (1, none), (2, none), (3, none), (4, none), (5, none), (6, none)] (by kernel_rfl) ?_
  refine l_call ok36 en36 (some 10) [] [] [] [] (by kernel_rfl) ⟨by kernel_rfl, by kernel_rfl⟩ (by kernel_rfl) (by kernel_rfl) (by kernel_rfl) (cl36  h) ?_
  rintro hR _ _ ⟨r3842, rfl, rfl, h⟩
  refine ⟨false, (.one (.d (.sl (List.map TTrace.enc r3842))), []), (fun hz => (by cases hz)), (ret_R hR (by kernel_rfl)), ?_⟩
  refine l_call ok14 en14 (some 11) [.one (.d (.sl (List.map TTrace.enc r3842))), .one (.d (.int .i64 1))] [false, false] [.one (.d (.sl (List.map TTrace.enc r3842))), .one (.d (.int .i64 1))] [] (by kernel_rfl) ⟨by kernel_rfl, by kernel_rfl⟩ (by kernel_rfl) (by kernel_rfl) (by kernel_rfl) (cl14 r3842 1 h) ?_
  rintro hR _ _ ⟨r3843, rfl, rfl, h⟩
  refine ⟨false, (.tup [.one (.view 11 1 0 ((List.map TLine.enc r3843.1).length)), .one (.d (.int .i64 r3843.2))], [(11, 1, .row true 41 7 (dmm (List.map TLine.enc r3843.1)))]), (fun hz => (by cases hz)), (ret_R hR (by kernel_rfl)), ?_⟩
  refine l_det (some 9) (.tup [.one (.view 11 1 0 ((List.map TLine.enc r3843.1).length)), .one (.d (.int .i64 r3843.2))], []) (by kernel_rfl) ?_
  refine l_det (some 12) (.one (.view 11 1 0 ((List.map TLine.enc r3843.1).length)), []) (by kernel_rfl) ?_
  refine l_det (some 13) (.one (.d (.int .i64 r3843.2)), []) (by kernel_rfl) ?_
  refine l_det (some 1) (.one (.view 11 1 0 ((List.map TLine.enc r3843.1).length)), []) (by kernel_rfl) ?_
  refine l_det (some 2) (.one (.d (.int .i64 r3843.2)), []) (by kernel_rfl) ?_
  refine l_nil ?_
  refine AW.sregL [(0, none), (1, none), (2, none), (3, none), (4, none), (5, none), (6, none)] (by kernel_rfl) ?_
  refine l_call ok36 en36 (some 15) [] [] [] [] (by kernel_rfl) ⟨by kernel_rfl, by kernel_rfl⟩ (by kernel_rfl) (by kernel_rfl) (by kernel_rfl) (cl36  h) ?_
  rintro hR _ _ ⟨r3846, rfl, rfl, h⟩
  refine ⟨false, (.one (.d (.sl (List.map TTrace.enc r3846))), []), (fun hz => (by cases hz)), (ret_R hR (by kernel_rfl)), ?_⟩
  refine l_call ok14 en14 (some 16) [.one (.d (.sl (List.map TTrace.enc r3846))), .one (.d (.int .i64 2))] [false, false] [.one (.d (.sl (List.map TTrace.enc r3846))), .one (.d (.int .i64 2))] [] (by kernel_rfl) ⟨by kernel_rfl, by kernel_rfl⟩ (by kernel_rfl) (by kernel_rfl) (by kernel_rfl) (cl14 r3846 2 h) ?_
  rintro hR _ _ ⟨r3847, rfl, rfl, h⟩
  refine ⟨false, (.tup [.one (.view 16 1 0 ((List.map TLine.enc r3847.1).length)), .one (.d (.int .i64 r3847.2))], [(16, 1, .row true 41 7 (dmm (List.map TLine.enc r3847.1)))]), (fun hz => (by cases hz)), (ret_R hR (by kernel_rfl)), ?_⟩
  refine l_det (some 14) (.tup [.one (.view 16 1 0 ((List.map TLine.enc r3847.1).length)), .one (.d (.int .i64 r3847.2))], []) (by kernel_rfl) ?_
  refine l_det (some 17) (.one (.view 16 1 0 ((List.map TLine.enc r3847.1).length)), []) (by kernel_rfl) ?_
  refine l_det (some 18) (.one (.d (.int .i64 r3847.2)), []) (by kernel_rfl) ?_
  refine l_det (some 3) (.one (.view 16 1 0 ((List.map TLine.enc r3847.1).length)), []) (by kernel_rfl) ?_
  refine l_det (some 4) (.one (.d (.int .i64 r3847.2)), []) (by kernel_rfl) ?_
  refine l_nil ?_
  refine AW.sregL [(0, none), (1, none), (2, none)] (by kernel_rfl) ?_
  refine l_det (some 19) (.agg [.d (.int .i64 3), .d (.int .i64 1), .nils], []) (by kernel_rfl) ?_
  refine l_det (some 5) (.one (.ref 5 1 0 0), [(5, 1, .row true 53 3 [[.d (.int .i64 0), .d (.int .i64 0), .nils]])]) (by kernel_rfl) ?_
  refine l_det none (.tup [], [(5, 1, .row true 53 3 [[.d (.int .i64 3), .d (.int .i64 1), .nils]])]) (by kernel_rfl) ?_
  refine l_nil ?_
  refine AW.seq ?_
  refine AW.sregL [(0, none)] (by kernel_rfl) ?_
  refine l_det (some 6) (.one (.d (.int .i64 1)), []) (by kernel_rfl) ?_
  refine l_nil ?_
  refine AW.blk ?_
  refine AW.loopL (S := ((List TSpan) × Int)) (fun s => (fun (v3855 : List TSpan) (v3856 : Int) => [(1, .one (.view 200001 0 0 ((List.map TLine.enc r3843.1).length))), (2, .one (.d (.int .i64 r3843.2))), (3, .one (.view 200002 0 0 ((List.map TLine.enc r3847.1).length))), (4, .one (.d (.int .i64 r3847.2))), (5, .one (.ref 200003 0 0 0)), (6, .one (.d (.int .i64 v3856)))]) s.1 s.2) (fun s => (fun (v3855 : List TSpan) (v3856 : Int) => [(200001, .pure true 41 7 (List.map TLine.enc r3843.1)), (200002, .pure true 41 7 (List.map TLine.enc r3847.1)), (200003, .expl true 53 3 [[.d (.int .i64 3), .d (.int .i64 1), .view 200004 0 0 ((List.map TSpan.enc v3855).length)]]), (200004, .pure true 58 14 (List.map TSpan.enc v3855))]) s.1 s.2) (fun (s : ((List TSpan) × Int)) N3859 => L12_1 r3843 r3847 K s.1 s.2 N3859) (N := fun s => LoopW (fun (s : ((List TSpan) × Int)) N3859 => L12_1 r3843 r3847 K s.1 s.2 N3859) s) (Lab.mk ([], 1) [(200001, some 11), (200002, some 16), (200003, some 5), (200004, none)] (by kernel_rfl) (by kernel_rfl) (by kernel_rfl) (by kernel_rfl) h) (fun _ h => h) ?_
  rintro ⟨v3855, v3856⟩ N3859 h
  have h : L12_1 r3843 r3847 K v3855 v3856 N3859 := h
  unfold L12_1 at h
  refine AW.seq ?_
  refine AW.sregL [(0, none), (1, none)] (by kernel_rfl) ?_
  refine l_det (some 20) (.one (.d (.int .i64 v3856)), []) (by kernel_rfl) ?_
  refine l_det (some 21) (.one (.d (.bool (decide (v3856 ≤ 4)))), []) (by kernel_rfl) ?_
  refine l_nil ?_
  refine AW.cond' (by kernel_rfl) h (fun h => ?_) (fun h => ?_)
  · refine AW.skip ?_
    refine q_fall ?_
    refine AW.seq ?_
    refine AW.blk ?_
    refine AW.regdL follows_mixed [[], [0], [], [], [], [4], [3, 4, 5], [3, 4, 5, 6], [2, 3, 4, 5, 6, 7], [2, 3, 4, 5, 6, 7, 8], [0, 1, 2, 3, 4, 5, 6, 7, 8, 9], [0, 1, 2, 3, 4, 5, 6, 7, 8, 9, 10], [0, 1, 2, 3, 4, 5, 6, 7, 8, 9, 10, 11]] [(0, none), (1, some [25, 1200003]), (2, none), (4, none), (5, none), (3, some [27]), (6, none), (7, none), (8, none), (9, some [33]), (10, none), (11, none), (12, none)] (by kernel_rfl) ?_
    refine l_det (some 24) (.one (.ref 200003 0 0 2), []) (by kernel_rfl) ?_
    refine l_det (some 25) (.one (.view 200004 0 0 ((List.map TSpan.enc v3855).length)), []) (by kernel_rfl) ?_
    refine l_det (some 26) (.one (.d (.int .i64 v3856)), []) (by kernel_rfl) ?_
    refine l_det (some 28) (.one (.d (.int .i64 v3856)), []) (by kernel_rfl) ?_
    refine l_det (some 29) (.one (.d (.int .i64 (w64 (v3856 - 1)))), []) (by kernel_rfl) ?_
    refine l_det (some 27) (.one (.view 27 1 0 4), [(27, 1, .row true 9 1 [[.d (.str (⟨#[115]⟩ : ByteArray))], [.d (.str (⟨#[115]⟩ : ByteArray))], [.d (.str (⟨#[116]⟩ : ByteArray))], [.d (.str (⟨#[115]⟩ : ByteArray))]])]) (by kernel_rfl) ?_
    obtain ⟨h34, x3861, h35, h⟩ := h
    refine l_spec (some 30) (.iad 1 (.t 27) (.t 29)) (.one (.ref 27 1 ((w64 (v3856 - 1)).toNat) 0), []) (by kernel_rfl) (detA_none (d_iad_v (enc := eStr) (k := .i64) (E := 9) (l := true) (ys := dmm (List.map eStr [(⟨#[115]⟩ : ByteArray), (⟨#[115]⟩ : ByteArray), (⟨#[116]⟩ : ByteArray), (⟨#[115]⟩ : ByteArray)])) [(⟨#[115]⟩ : ByteArray), (⟨#[115]⟩ : ByteArray), (⟨#[116]⟩ : ByteArray), (⟨#[115]⟩ : ByteArray)] x3861 (by kernel_rfl) (by kernel_rfl) (by kernel_rfl) (by kernel_rfl) h34 h35)) ?_
    refine l_spec (some 31) (.ld false 1 (.t 30)) (.one (.d (.str x3861)), []) (by kernel_rfl) (detA_none (d_ld_row (enc := eStr) (o := 27) (g := 1) (i := ((w64 (v3856 - 1)).toNat)) (off := 0) (E := 9) (sz := 1) (l := true) [(⟨#[115]⟩ : ByteArray), (⟨#[115]⟩ : ByteArray), (⟨#[116]⟩ : ByteArray), (⟨#[115]⟩ : ByteArray)] x3861 (by kernel_rfl) (by kernel_rfl) (by kernel_rfl) h35 (by kernel_rfl))) ?_
    refine l_det (some 32) (.agg [.d (.int .i64 3), .d (.int .i64 v3856), .d (.int .i64 0), .d (.int .i64 0), .d (.int .i64 1), .d (.int .i64 3), .d (.str x3861), .d (.str (⟨#[]⟩ : ByteArray)), .d (.str (⟨#[111]⟩ : ByteArray)), .d (.int .i64 0), .d (.int .i64 0), .d (.bool false), .nils, .nils], []) (by kernel_rfl) ?_
    refine l_det (some 33) (.one (.view 33 1 0 1), [(33, 1, .row true 58 14 [[.d (.int .i64 3), .d (.int .i64 v3856), .d (.int .i64 0), .d (.int .i64 0), .d (.int .i64 1), .d (.int .i64 3), .d (.str x3861), .d (.str (⟨#[]⟩ : ByteArray)), .d (.str (⟨#[111]⟩ : ByteArray)), .d (.int .i64 0), .d (.int .i64 0), .d (.bool false), .nils, .nils]])]) (by kernel_rfl) ?_
    obtain ⟨h36, h⟩ := h
    refine l_spec (some 34) (.app 58 14 168 [.int .i64 0, .int .i64 0, .int .i64 0, .int .i64 0, .int .i64 0, .int .i64 0, .str ⟨#[]⟩, .str ⟨#[]⟩, .str ⟨#[]⟩, .int .i64 0, .int .i64 0, .bool false, .nils, .nils] (.t 25) (.t 33)) (.one (.view 200004 1 0 ((List.map TSpan.enc (v3855 ++ [(TSpan.mk 3 v3856 0 0 1 3 x3861 (⟨#[]⟩ : ByteArray) (⟨#[111]⟩ : ByteArray) 0 0 false [] [])])).length)), [(200004, 1, .row true 58 14 (dmm (List.map TSpan.enc (v3855 ++ [(TSpan.mk 3 v3856 0 0 1 3 x3861 (⟨#[]⟩ : ByteArray) (⟨#[111]⟩ : ByteArray) 0 0 false [] [])]))))]) (by kernel_rfl) (detA_none (d_app_v (enc := TSpan.enc) (xc := .view 33 1 0 1) v3855 [(TSpan.mk 3 v3856 0 0 1 3 x3861 (⟨#[]⟩ : ByteArray) (⟨#[111]⟩ : ByteArray) 0 0 false [] [])] (by kernel_rfl) (by kernel_rfl) (by kernel_rfl) (by kernel_rfl) (by kernel_rfl) h36 (by kernel_rfl))) ?_
    refine l_det (some 35) (.one (.ref 200003 0 0 2), []) (by kernel_rfl) ?_
    refine l_det none (.tup [], [(200003, 0, .row true 53 3 [[.d (.int .i64 3), .d (.int .i64 1), .view 200004 1 0 ((List.map TSpan.enc (v3855 ++ [(TSpan.mk 3 v3856 0 0 1 3 x3861 (⟨#[]⟩ : ByteArray) (⟨#[111]⟩ : ByteArray) 0 0 false [] [])])).length)]])]) (by kernel_rfl) ?_
    refine l_nil ?_
    refine q_bfall ?_
    refine q_fall ?_
    refine AW.regL [(0, none), (1, none), (2, none)] (by kernel_rfl) ?_
    refine l_det (some 22) (.one (.d (.int .i64 v3856)), []) (by kernel_rfl) ?_
    refine l_det (some 23) (.one (.d (.int .i64 (w64 (v3856 + 1)))), []) (by kernel_rfl) ?_
    refine l_det (some 6) (.one (.d (.int .i64 (w64 (v3856 + 1)))), []) (by kernel_rfl) ?_
    refine l_nil ?_
    refine q_fall ?_
    exact Lab.mk ((v3855 ++ [(TSpan.mk 3 v3856 0 0 1 3 x3861 (⟨#[]⟩ : ByteArray) (⟨#[111]⟩ : ByteArray) 0 0 false [] [])]), (w64 (v3856 + 1))) [(200001, some 200001), (200002, some 200002), (200003, some 200003), (200004, some 200004)] (by kernel_rfl) (by kernel_rfl) (by kernel_rfl) (by kernel_rfl) h
  · refine AW.exit ?_
    refine q_exit ?_
    refine q_exit ?_
    refine q_bhere ?_
    refine q_fall ?_
    refine AW.sregL [(0, none), (1, none), (2, none), (3, none), (4, none), (5, none), (6, none), (7, none), (8, none), (9, none), (10, none), (11, none), (12, none)] (by kernel_rfl) ?_
    refine l_det (some 37) (.agg [.d (.int .i64 3), .d (.int .i64 1), .view 200004 0 0 ((List.map TSpan.enc v3855).length)], []) (by kernel_rfl) ?_
    refine l_det (some 38) (.one (.view 38 1 0 1), [(38, 1, .row true 53 3 [[.d (.int .i64 3), .d (.int .i64 1), .view 200004 0 0 ((List.map TSpan.enc v3855).length)]])]) (by kernel_rfl) ?_
    refine l_det (some 39) (.agg [.d (.int .i64 0), .d (.str (⟨#[115]⟩ : ByteArray)), .d (.int .i64 10), .d (.int .i64 0)], []) (by kernel_rfl) ?_
    refine l_det (some 40) (.one (.view 40 1 0 1), [(40, 1, .row true 60 4 [[.d (.int .i64 0), .d (.str (⟨#[115]⟩ : ByteArray)), .d (.int .i64 10), .d (.int .i64 0)]])]) (by kernel_rfl) ?_
    refine l_det (some 41) (.agg [.d (.int .i64 0), .d (.int .i64 2)], []) (by kernel_rfl) ?_
    refine l_det (some 42) (.one (.view 42 1 0 1), [(42, 1, .row true 62 2 [[.d (.int .i64 0), .d (.int .i64 2)]])]) (by kernel_rfl) ?_
    refine l_det (some 43) (.agg [.view 38 1 0 1, .nils, .view 40 1 0 1, .view 42 1 0 1], []) (by kernel_rfl) ?_
    refine l_call ok19 en19 (some 44) [.agg [.view 38 1 0 1, .nils, .view 40 1 0 1, .view 42 1 0 1], .one (.d (.int .i64 0)), .one (.d (.str (⟨#[115]⟩ : ByteArray)))] [false, false, false] [.agg (List.map RC.d [.sl [[.int .i64 3, .int .i64 1, .sl (List.map TSpan.enc v3855)]], .sl [], .sl [[.int .i64 0, .str (⟨#[115]⟩ : ByteArray), .int .i64 10, .int .i64 0]], .sl [[.int .i64 0, .int .i64 2]]]), .one (.d (.int .i64 0)), .one (.d (.str (⟨#[115]⟩ : ByteArray)))] [38, 200004, 40, 42] (by kernel_rfl) (ps_plain (pv_agg (pc_cons (pf_expl (xs := [[.d (.int .i64 3), .d (.int .i64 1), .view 200004 0 0 ((List.map TSpan.enc v3855).length)]]) (E := 53) (sz := 3) (l := true) (by kernel_rfl) (by kernel_rfl) (by kernel_rfl) rfl (pr_cons (pc_cons pf_d (pc_cons pf_d (pc_cons (pf_view (E := 58) (sz := 14) (l := true) (List.map TSpan.enc v3855) (by kernel_rfl) (by kernel_rfl) rfl) pc_nil))) pr_nil)) (pc_cons pf_nils (pc_cons (pk (.sl [[.int .i64 0, .str (⟨#[115]⟩ : ByteArray), .int .i64 10, .int .i64 0]]) [40] (by kernel_rfl) (by kernel_rfl)) (pc_cons (pk (.sl [[.int .i64 0, .int .i64 2]]) [42] (by kernel_rfl) (by kernel_rfl)) pc_nil))))) (ps_plain (pv_one pf_d) (ps_plain (pv_one pf_d) ps_nil))) (by kernel_rfl) (by kernel_rfl) (by kernel_rfl) (cl19 (TRetained.mk [(TTrace.mk 3 1 v3855)] [] [(TRemoved.mk 0 (⟨#[115]⟩ : ByteArray) 10 0)] [(TLate.mk 0 2)]) 0 (⟨#[115]⟩ : ByteArray) h) ?_
    rintro hR _ _ ⟨r3863, rfl, rfl, h⟩
    refine ⟨true, (.tup [.one (.d (.int .i64 r3863.1)), .one (.d (.int .i64 r3863.2))], []), (fun _ => (by kernel_rfl)), (by kernel_rfl), ?_⟩
    refine l_det (some 36) (.tup [.one (.d (.int .i64 r3863.1)), .one (.d (.int .i64 r3863.2))], []) (by kernel_rfl) ?_
    refine l_det (some 45) (.one (.d (.int .i64 r3863.1)), []) (by kernel_rfl) ?_
    refine l_det (some 46) (.one (.d (.int .i64 r3863.2)), []) (by kernel_rfl) ?_
    refine l_det (some 7) (.one (.d (.int .i64 r3863.1)), []) (by kernel_rfl) ?_
    refine l_det (some 8) (.one (.d (.int .i64 r3863.2)), []) (by kernel_rfl) ?_
    refine l_nil ?_
    refine AW.seqL (S := Bool) (fun s => (fun (v3868 : Bool) => [(0, .one (.d (.bool v3868)))]) s) (fun s => (fun (v3868 : Bool) => []) s) (fun s : Bool => J12_2 K s) ?_ ?_
    · refine AW.regL [(0, none), (1, none), (2, none), (3, none), (4, none), (5, none), (6, none), (7, none), (8, none), (9, none), (10, none), (11, none), (12, none), (13, none), (14, none), (15, none), (16, none), (17, none), (18, none), (19, none), (20, none), (21, none), (22, none), (23, none), (24, none), (25, none), (26, none), (27, none), (28, none), (29, none), (30, none), (31, none), (32, none), (33, none), (34, none), (35, none), (36, none), (37, none), (38, none), (39, none), (40, none), (41, none)] (by kernel_rfl) ?_
      refine l_det (some 47) (.one (.d (.int .i64 r3843.2)), []) (by kernel_rfl) ?_
      refine l_det (some 48) (.one (.d (.bool (decide (r3843.2 = 0)))), []) (by kernel_rfl) ?_
      refine l_det (some 49) (.one (.d (.bool (decide (r3843.2 = 0)))), []) (by kernel_rfl) ?_
      refine l_split (s := 49) (by kernel_rfl) h (fun h => ?_) (fun h => ?_)
      · refine l_det (some 50) (.one (.d (.int .i64 r3847.2)), []) (by kernel_rfl) ?_
        refine l_det (some 51) (.one (.d (.bool (decide (r3847.2 = 0)))), []) (by kernel_rfl) ?_
        refine l_det (some 52) (.one (.d (.bool (decide (r3847.2 = 0)))), []) (by kernel_rfl) ?_
        refine l_det (some 53) (.one (.d (.bool (decide (r3847.2 = 0)))), []) (by kernel_rfl) ?_
        refine l_split (s := 53) (by kernel_rfl) h (fun h => ?_) (fun h => ?_)
        · refine l_det (some 54) (.one (.view 200001 0 0 ((List.map TLine.enc r3843.1).length)), []) (by kernel_rfl) ?_
          refine l_spec (some 55) (.lens (.t 54)) (.one (.d (.int .i64 (r3843.1.length : Int))), []) (by kernel_rfl) (detA_none (d_lens_v (enc := TLine.enc) (o := 200001) (g := 0) r3843.1 (by kernel_rfl))) ?_
          refine l_det (some 56) (.one (.d (.bool (decide ((r3843.1.length : Int) = 1)))), []) (by kernel_rfl) ?_
          refine l_det (some 57) (.one (.d (.bool (decide ((r3843.1.length : Int) = 1)))), []) (by kernel_rfl) ?_
          refine l_det (some 58) (.one (.d (.bool (decide ((r3843.1.length : Int) = 1)))), []) (by kernel_rfl) ?_
          refine l_split (s := 58) (by kernel_rfl) h (fun h => ?_) (fun h => ?_)
          · refine l_det (some 59) (.one (.view 200001 0 0 ((List.map TLine.enc r3843.1).length)), []) (by kernel_rfl) ?_
            obtain ⟨h47, x3869, h48, h⟩ := h
            refine l_spec (some 60) (.iad 7 (.t 59) (.c (.int .i64 0))) (.one (.ref 200001 0 ((0 : Int).toNat) 0), []) (by kernel_rfl) (detA_none (d_iad_v (enc := TLine.enc) (k := .i64) (E := 41) (l := true) (ys := dmm (List.map TLine.enc r3843.1)) r3843.1 x3869 (by kernel_rfl) (by kernel_rfl) (by kernel_rfl) (by kernel_rfl) h47 h48)) ?_
            refine l_det (some 61) (.one (.ref 200001 0 ((0 : Int).toNat) 3), []) (by kernel_rfl) ?_
            refine l_spec (some 62) (.ld true 4 (.t 61)) (.agg [.d (.int .i64 x3869.total.spans), .d (.int .i64 x3869.total.errors), .d (.int .i64 x3869.total.duration), .d (.int .i64 x3869.total.traces)], []) (by kernel_rfl) (detA_none (d_ld_row (enc := TLine.enc) (o := 200001) (g := 0) (i := ((0 : Int).toNat)) (off := 3) (E := 41) (sz := 7) (l := true) r3843.1 x3869 (by kernel_rfl) (by kernel_rfl) (by kernel_rfl) h48 (by kernel_rfl))) ?_
            refine l_det (some 63) (.agg [.d (.int .i64 8), .d (.int .i64 4), .d (.int .i64 60), .d (.int .i64 4)], []) (by kernel_rfl) ?_
            refine l_det (some 64) (.one (.d (.bool (decide (x3869.total.spans = 8) && (decide (x3869.total.errors = 4) && (decide (x3869.total.duration = 60) && (decide (x3869.total.traces = 4) && true)))))), []) (by kernel_rfl) ?_
            refine l_det (some 65) (.one (.d (.bool (decide (x3869.total.spans = 8) && (decide (x3869.total.errors = 4) && (decide (x3869.total.duration = 60) && (decide (x3869.total.traces = 4) && true)))))), []) (by kernel_rfl) ?_
            refine l_det (some 66) (.one (.d (.bool (decide (x3869.total.spans = 8) && (decide (x3869.total.errors = 4) && (decide (x3869.total.duration = 60) && (decide (x3869.total.traces = 4) && true)))))), []) (by kernel_rfl) ?_
            refine l_split (s := 66) (by kernel_rfl) h (fun h => ?_) (fun h => ?_)
            · refine l_det (some 67) (.one (.view 200002 0 0 ((List.map TLine.enc r3847.1).length)), []) (by kernel_rfl) ?_
              refine l_spec (some 68) (.lens (.t 67)) (.one (.d (.int .i64 (r3847.1.length : Int))), []) (by kernel_rfl) (detA_none (d_lens_v (enc := TLine.enc) (o := 200002) (g := 0) r3847.1 (by kernel_rfl))) ?_
              refine l_det (some 69) (.one (.d (.bool (decide ((r3847.1.length : Int) = 2)))), []) (by kernel_rfl) ?_
              refine l_det (some 70) (.one (.d (.bool (decide ((r3847.1.length : Int) = 2)))), []) (by kernel_rfl) ?_
              refine l_det (some 71) (.one (.d (.bool (decide ((r3847.1.length : Int) = 2)))), []) (by kernel_rfl) ?_
              refine l_split (s := 71) (by kernel_rfl) h (fun h => ?_) (fun h => ?_)
              · refine l_det (some 72) (.one (.view 200002 0 0 ((List.map TLine.enc r3847.1).length)), []) (by kernel_rfl) ?_
                obtain ⟨h49, x3870, h50, h⟩ := h
                refine l_spec (some 73) (.iad 7 (.t 72) (.c (.int .i64 1))) (.one (.ref 200002 0 ((1 : Int).toNat) 0), []) (by kernel_rfl) (detA_none (d_iad_v (enc := TLine.enc) (k := .i64) (E := 41) (l := true) (ys := dmm (List.map TLine.enc r3847.1)) r3847.1 x3870 (by kernel_rfl) (by kernel_rfl) (by kernel_rfl) (by kernel_rfl) h49 h50)) ?_
                refine l_spec (some 74) (.ld true 7 (.t 73)) (.agg [.d (.str x3870.group.service), .d (.str x3870.group.version), .d (.str x3870.group.operation), .d (.int .i64 x3870.total.spans), .d (.int .i64 x3870.total.errors), .d (.int .i64 x3870.total.duration), .d (.int .i64 x3870.total.traces)], []) (by kernel_rfl) (detA_none (d_ld_row (enc := TLine.enc) (o := 200002) (g := 0) (i := ((1 : Int).toNat)) (off := 0) (E := 41) (sz := 7) (l := true) r3847.1 x3870 (by kernel_rfl) (by kernel_rfl) (by kernel_rfl) h50 (by kernel_rfl))) ?_
                refine l_det (some 75) (.agg [.d (.str (⟨#[97, 112, 105]⟩ : ByteArray)), .d (.str (⟨#[118, 50]⟩ : ByteArray)), .d (.str (⟨#[]⟩ : ByteArray))], []) (by kernel_rfl) ?_
                refine l_det (some 76) (.agg [.d (.int .i64 4), .d (.int .i64 4), .d (.int .i64 20), .d (.int .i64 4)], []) (by kernel_rfl) ?_
                refine l_det (some 77) (.agg [.d (.str (⟨#[97, 112, 105]⟩ : ByteArray)), .d (.str (⟨#[118, 50]⟩ : ByteArray)), .d (.str (⟨#[]⟩ : ByteArray)), .d (.int .i64 4), .d (.int .i64 4), .d (.int .i64 20), .d (.int .i64 4)], []) (by kernel_rfl) ?_
                refine l_det (some 78) (.one (.d (.bool (decide (x3870.group.service = (⟨#[97, 112, 105]⟩ : ByteArray)) && (decide (x3870.group.version = (⟨#[118, 50]⟩ : ByteArray)) && (decide (x3870.group.operation = (⟨#[]⟩ : ByteArray)) && (decide (x3870.total.spans = 4) && (decide (x3870.total.errors = 4) && (decide (x3870.total.duration = 20) && (decide (x3870.total.traces = 4) && true))))))))), []) (by kernel_rfl) ?_
                refine l_det (some 79) (.one (.d (.bool (decide (x3870.group.service = (⟨#[97, 112, 105]⟩ : ByteArray)) && (decide (x3870.group.version = (⟨#[118, 50]⟩ : ByteArray)) && (decide (x3870.group.operation = (⟨#[]⟩ : ByteArray)) && (decide (x3870.total.spans = 4) && (decide (x3870.total.errors = 4) && (decide (x3870.total.duration = 20) && (decide (x3870.total.traces = 4) && true))))))))), []) (by kernel_rfl) ?_
                refine l_det (some 80) (.one (.d (.bool (decide (x3870.group.service = (⟨#[97, 112, 105]⟩ : ByteArray)) && (decide (x3870.group.version = (⟨#[118, 50]⟩ : ByteArray)) && (decide (x3870.group.operation = (⟨#[]⟩ : ByteArray)) && (decide (x3870.total.spans = 4) && (decide (x3870.total.errors = 4) && (decide (x3870.total.duration = 20) && (decide (x3870.total.traces = 4) && true))))))))), []) (by kernel_rfl) ?_
                refine l_split (s := 80) (by kernel_rfl) h (fun h => ?_) (fun h => ?_)
                · refine l_det (some 81) (.one (.d (.int .i64 r3863.1)), []) (by kernel_rfl) ?_
                  refine l_det (some 82) (.one (.d (.bool (decide (r3863.1 = 11)))), []) (by kernel_rfl) ?_
                  refine l_det (some 83) (.one (.d (.bool (decide (r3863.1 = 11)))), []) (by kernel_rfl) ?_
                  refine l_det (some 84) (.one (.d (.bool (decide (r3863.1 = 11)))), []) (by kernel_rfl) ?_
                  refine l_split (s := 84) (by kernel_rfl) h (fun h => ?_) (fun h => ?_)
                  · refine l_det (some 85) (.one (.d (.int .i64 r3863.2)), []) (by kernel_rfl) ?_
                    refine l_det (some 86) (.one (.d (.bool (decide (r3863.2 = 15)))), []) (by kernel_rfl) ?_
                    refine l_det (some 87) (.one (.d (.bool (decide (r3863.2 = 15)))), []) (by kernel_rfl) ?_
                    refine l_det (some 0) (.one (.d (.bool (decide (r3863.2 = 15)))), []) (by kernel_rfl) ?_
                    refine l_nil ?_
                    refine q_fall ?_
                    exact Lab.mk (decide (r3863.2 = 15)) [] (by kernel_rfl) (by kernel_rfl) (by kernel_rfl) (by kernel_rfl) h
                  · refine l_det (some 85) (.tup [], []) (by kernel_rfl) ?_
                    refine l_det (some 86) (.tup [], []) (by kernel_rfl) ?_
                    refine l_det (some 87) (.one (.d (.bool false)), []) (by kernel_rfl) ?_
                    refine l_det (some 0) (.one (.d (.bool false)), []) (by kernel_rfl) ?_
                    refine l_nil ?_
                    refine q_fall ?_
                    exact Lab.mk false [] (by kernel_rfl) (by kernel_rfl) (by kernel_rfl) (by kernel_rfl) h
                · refine l_det (some 81) (.tup [], []) (by kernel_rfl) ?_
                  refine l_det (some 82) (.tup [], []) (by kernel_rfl) ?_
                  refine l_det (some 83) (.one (.d (.bool false)), []) (by kernel_rfl) ?_
                  refine l_det (some 84) (.one (.d (.bool false)), []) (by kernel_rfl) ?_
                  refine l_det (some 85) (.tup [], []) (by kernel_rfl) ?_
                  refine l_det (some 86) (.tup [], []) (by kernel_rfl) ?_
                  refine l_det (some 87) (.one (.d (.bool false)), []) (by kernel_rfl) ?_
                  refine l_det (some 0) (.one (.d (.bool false)), []) (by kernel_rfl) ?_
                  refine l_nil ?_
                  refine q_fall ?_
                  exact Lab.mk false [] (by kernel_rfl) (by kernel_rfl) (by kernel_rfl) (by kernel_rfl) h
              · refine l_det (some 72) (.tup [], []) (by kernel_rfl) ?_
                refine l_det (some 73) (.tup [], []) (by kernel_rfl) ?_
                refine l_det (some 74) (.tup [], []) (by kernel_rfl) ?_
                refine l_det (some 75) (.tup [], []) (by kernel_rfl) ?_
                refine l_det (some 76) (.tup [], []) (by kernel_rfl) ?_
                refine l_det (some 77) (.tup [], []) (by kernel_rfl) ?_
                refine l_det (some 78) (.tup [], []) (by kernel_rfl) ?_
                refine l_det (some 79) (.one (.d (.bool false)), []) (by kernel_rfl) ?_
                refine l_det (some 80) (.one (.d (.bool false)), []) (by kernel_rfl) ?_
                refine l_det (some 81) (.tup [], []) (by kernel_rfl) ?_
                refine l_det (some 82) (.tup [], []) (by kernel_rfl) ?_
                refine l_det (some 83) (.one (.d (.bool false)), []) (by kernel_rfl) ?_
                refine l_det (some 84) (.one (.d (.bool false)), []) (by kernel_rfl) ?_
                refine l_det (some 85) (.tup [], []) (by kernel_rfl) ?_
                refine l_det (some 86) (.tup [], []) (by kernel_rfl) ?_
                refine l_det (some 87) (.one (.d (.bool false)), []) (by kernel_rfl) ?_
                refine l_det (some 0) (.one (.d (.bool false)), []) (by kernel_rfl) ?_
                refine l_nil ?_
                refine q_fall ?_
                exact Lab.mk false [] (by kernel_rfl) (by kernel_rfl) (by kernel_rfl) (by kernel_rfl) h
            · refine l_det (some 67) (.tup [], []) (by kernel_rfl) ?_
              refine l_det (some 68) (.tup [], []) (by kernel_rfl) ?_
              refine l_det (some 69) (.tup [], []) (by kernel_rfl) ?_
              refine l_det (some 70) (.one (.d (.bool false)), []) (by kernel_rfl) ?_
              refine l_det (some 71) (.one (.d (.bool false)), []) (by kernel_rfl) ?_
              refine l_det (some 72) (.tup [], []) (by kernel_rfl) ?_
              refine l_det (some 73) (.tup [], []) (by kernel_rfl) ?_
              refine l_det (some 74) (.tup [], []) (by kernel_rfl) ?_
              refine l_det (some 75) (.tup [], []) (by kernel_rfl) ?_
              refine l_det (some 76) (.tup [], []) (by kernel_rfl) ?_
              refine l_det (some 77) (.tup [], []) (by kernel_rfl) ?_
              refine l_det (some 78) (.tup [], []) (by kernel_rfl) ?_
              refine l_det (some 79) (.one (.d (.bool false)), []) (by kernel_rfl) ?_
              refine l_det (some 80) (.one (.d (.bool false)), []) (by kernel_rfl) ?_
              refine l_det (some 81) (.tup [], []) (by kernel_rfl) ?_
              refine l_det (some 82) (.tup [], []) (by kernel_rfl) ?_
              refine l_det (some 83) (.one (.d (.bool false)), []) (by kernel_rfl) ?_
              refine l_det (some 84) (.one (.d (.bool false)), []) (by kernel_rfl) ?_
              refine l_det (some 85) (.tup [], []) (by kernel_rfl) ?_
              refine l_det (some 86) (.tup [], []) (by kernel_rfl) ?_
              refine l_det (some 87) (.one (.d (.bool false)), []) (by kernel_rfl) ?_
              refine l_det (some 0) (.one (.d (.bool false)), []) (by kernel_rfl) ?_
              refine l_nil ?_
              refine q_fall ?_
              exact Lab.mk false [] (by kernel_rfl) (by kernel_rfl) (by kernel_rfl) (by kernel_rfl) h
          · refine l_det (some 59) (.tup [], []) (by kernel_rfl) ?_
            refine l_det (some 60) (.tup [], []) (by kernel_rfl) ?_
            refine l_det (some 61) (.tup [], []) (by kernel_rfl) ?_
            refine l_det (some 62) (.tup [], []) (by kernel_rfl) ?_
            refine l_det (some 63) (.tup [], []) (by kernel_rfl) ?_
            refine l_det (some 64) (.tup [], []) (by kernel_rfl) ?_
            refine l_det (some 65) (.one (.d (.bool false)), []) (by kernel_rfl) ?_
            refine l_det (some 66) (.one (.d (.bool false)), []) (by kernel_rfl) ?_
            refine l_det (some 67) (.tup [], []) (by kernel_rfl) ?_
            refine l_det (some 68) (.tup [], []) (by kernel_rfl) ?_
            refine l_det (some 69) (.tup [], []) (by kernel_rfl) ?_
            refine l_det (some 70) (.one (.d (.bool false)), []) (by kernel_rfl) ?_
            refine l_det (some 71) (.one (.d (.bool false)), []) (by kernel_rfl) ?_
            refine l_det (some 72) (.tup [], []) (by kernel_rfl) ?_
            refine l_det (some 73) (.tup [], []) (by kernel_rfl) ?_
            refine l_det (some 74) (.tup [], []) (by kernel_rfl) ?_
            refine l_det (some 75) (.tup [], []) (by kernel_rfl) ?_
            refine l_det (some 76) (.tup [], []) (by kernel_rfl) ?_
            refine l_det (some 77) (.tup [], []) (by kernel_rfl) ?_
            refine l_det (some 78) (.tup [], []) (by kernel_rfl) ?_
            refine l_det (some 79) (.one (.d (.bool false)), []) (by kernel_rfl) ?_
            refine l_det (some 80) (.one (.d (.bool false)), []) (by kernel_rfl) ?_
            refine l_det (some 81) (.tup [], []) (by kernel_rfl) ?_
            refine l_det (some 82) (.tup [], []) (by kernel_rfl) ?_
            refine l_det (some 83) (.one (.d (.bool false)), []) (by kernel_rfl) ?_
            refine l_det (some 84) (.one (.d (.bool false)), []) (by kernel_rfl) ?_
            refine l_det (some 85) (.tup [], []) (by kernel_rfl) ?_
            refine l_det (some 86) (.tup [], []) (by kernel_rfl) ?_
            refine l_det (some 87) (.one (.d (.bool false)), []) (by kernel_rfl) ?_
            refine l_det (some 0) (.one (.d (.bool false)), []) (by kernel_rfl) ?_
            refine l_nil ?_
            refine q_fall ?_
            exact Lab.mk false [] (by kernel_rfl) (by kernel_rfl) (by kernel_rfl) (by kernel_rfl) h
        · refine l_det (some 54) (.tup [], []) (by kernel_rfl) ?_
          refine l_det (some 55) (.tup [], []) (by kernel_rfl) ?_
          refine l_det (some 56) (.tup [], []) (by kernel_rfl) ?_
          refine l_det (some 57) (.one (.d (.bool false)), []) (by kernel_rfl) ?_
          refine l_det (some 58) (.one (.d (.bool false)), []) (by kernel_rfl) ?_
          refine l_det (some 59) (.tup [], []) (by kernel_rfl) ?_
          refine l_det (some 60) (.tup [], []) (by kernel_rfl) ?_
          refine l_det (some 61) (.tup [], []) (by kernel_rfl) ?_
          refine l_det (some 62) (.tup [], []) (by kernel_rfl) ?_
          refine l_det (some 63) (.tup [], []) (by kernel_rfl) ?_
          refine l_det (some 64) (.tup [], []) (by kernel_rfl) ?_
          refine l_det (some 65) (.one (.d (.bool false)), []) (by kernel_rfl) ?_
          refine l_det (some 66) (.one (.d (.bool false)), []) (by kernel_rfl) ?_
          refine l_det (some 67) (.tup [], []) (by kernel_rfl) ?_
          refine l_det (some 68) (.tup [], []) (by kernel_rfl) ?_
          refine l_det (some 69) (.tup [], []) (by kernel_rfl) ?_
          refine l_det (some 70) (.one (.d (.bool false)), []) (by kernel_rfl) ?_
          refine l_det (some 71) (.one (.d (.bool false)), []) (by kernel_rfl) ?_
          refine l_det (some 72) (.tup [], []) (by kernel_rfl) ?_
          refine l_det (some 73) (.tup [], []) (by kernel_rfl) ?_
          refine l_det (some 74) (.tup [], []) (by kernel_rfl) ?_
          refine l_det (some 75) (.tup [], []) (by kernel_rfl) ?_
          refine l_det (some 76) (.tup [], []) (by kernel_rfl) ?_
          refine l_det (some 77) (.tup [], []) (by kernel_rfl) ?_
          refine l_det (some 78) (.tup [], []) (by kernel_rfl) ?_
          refine l_det (some 79) (.one (.d (.bool false)), []) (by kernel_rfl) ?_
          refine l_det (some 80) (.one (.d (.bool false)), []) (by kernel_rfl) ?_
          refine l_det (some 81) (.tup [], []) (by kernel_rfl) ?_
          refine l_det (some 82) (.tup [], []) (by kernel_rfl) ?_
          refine l_det (some 83) (.one (.d (.bool false)), []) (by kernel_rfl) ?_
          refine l_det (some 84) (.one (.d (.bool false)), []) (by kernel_rfl) ?_
          refine l_det (some 85) (.tup [], []) (by kernel_rfl) ?_
          refine l_det (some 86) (.tup [], []) (by kernel_rfl) ?_
          refine l_det (some 87) (.one (.d (.bool false)), []) (by kernel_rfl) ?_
          refine l_det (some 0) (.one (.d (.bool false)), []) (by kernel_rfl) ?_
          refine l_nil ?_
          refine q_fall ?_
          exact Lab.mk false [] (by kernel_rfl) (by kernel_rfl) (by kernel_rfl) (by kernel_rfl) h
      · refine l_det (some 50) (.tup [], []) (by kernel_rfl) ?_
        refine l_det (some 51) (.tup [], []) (by kernel_rfl) ?_
        refine l_det (some 52) (.one (.d (.bool false)), []) (by kernel_rfl) ?_
        refine l_det (some 53) (.one (.d (.bool false)), []) (by kernel_rfl) ?_
        refine l_det (some 54) (.tup [], []) (by kernel_rfl) ?_
        refine l_det (some 55) (.tup [], []) (by kernel_rfl) ?_
        refine l_det (some 56) (.tup [], []) (by kernel_rfl) ?_
        refine l_det (some 57) (.one (.d (.bool false)), []) (by kernel_rfl) ?_
        refine l_det (some 58) (.one (.d (.bool false)), []) (by kernel_rfl) ?_
        refine l_det (some 59) (.tup [], []) (by kernel_rfl) ?_
        refine l_det (some 60) (.tup [], []) (by kernel_rfl) ?_
        refine l_det (some 61) (.tup [], []) (by kernel_rfl) ?_
        refine l_det (some 62) (.tup [], []) (by kernel_rfl) ?_
        refine l_det (some 63) (.tup [], []) (by kernel_rfl) ?_
        refine l_det (some 64) (.tup [], []) (by kernel_rfl) ?_
        refine l_det (some 65) (.one (.d (.bool false)), []) (by kernel_rfl) ?_
        refine l_det (some 66) (.one (.d (.bool false)), []) (by kernel_rfl) ?_
        refine l_det (some 67) (.tup [], []) (by kernel_rfl) ?_
        refine l_det (some 68) (.tup [], []) (by kernel_rfl) ?_
        refine l_det (some 69) (.tup [], []) (by kernel_rfl) ?_
        refine l_det (some 70) (.one (.d (.bool false)), []) (by kernel_rfl) ?_
        refine l_det (some 71) (.one (.d (.bool false)), []) (by kernel_rfl) ?_
        refine l_det (some 72) (.tup [], []) (by kernel_rfl) ?_
        refine l_det (some 73) (.tup [], []) (by kernel_rfl) ?_
        refine l_det (some 74) (.tup [], []) (by kernel_rfl) ?_
        refine l_det (some 75) (.tup [], []) (by kernel_rfl) ?_
        refine l_det (some 76) (.tup [], []) (by kernel_rfl) ?_
        refine l_det (some 77) (.tup [], []) (by kernel_rfl) ?_
        refine l_det (some 78) (.tup [], []) (by kernel_rfl) ?_
        refine l_det (some 79) (.one (.d (.bool false)), []) (by kernel_rfl) ?_
        refine l_det (some 80) (.one (.d (.bool false)), []) (by kernel_rfl) ?_
        refine l_det (some 81) (.tup [], []) (by kernel_rfl) ?_
        refine l_det (some 82) (.tup [], []) (by kernel_rfl) ?_
        refine l_det (some 83) (.one (.d (.bool false)), []) (by kernel_rfl) ?_
        refine l_det (some 84) (.one (.d (.bool false)), []) (by kernel_rfl) ?_
        refine l_det (some 85) (.tup [], []) (by kernel_rfl) ?_
        refine l_det (some 86) (.tup [], []) (by kernel_rfl) ?_
        refine l_det (some 87) (.one (.d (.bool false)), []) (by kernel_rfl) ?_
        refine l_det (some 0) (.one (.d (.bool false)), []) (by kernel_rfl) ?_
        refine l_nil ?_
        refine q_fall ?_
        exact Lab.mk false [] (by kernel_rfl) (by kernel_rfl) (by kernel_rfl) (by kernel_rfl) h
    · rintro v3868 h
      have h : J12_2 K v3868 := h
      unfold J12_2 at h
      refine AW.ret ?_
      exact q_end [.one (.d (.bool v3868))] [false] [.one (.d (.bool v3868))] [] [] (by kernel_rfl) ⟨by kernel_rfl, by kernel_rfl⟩ (by kernel_rfl) (by kernel_rfl) (by kernel_rfl) (by kernel_rfl) (Eq.mp (by kernel_rfl) (hK v3868 h)) (.inr rfl)
end Go.Proofs.Ytnpdeecoejabgaa
