/- Go functions: their shallow forms, and that they keep their contracts. Printed by a program of mine (gs.py). -/
import Derived.Test.YtnpdeecoejabgaaFA3
set_option maxRecDepth 100000
set_option linter.unusedVariables false
set_option linter.unusedSimpArgs false
namespace Go.Proofs.Ytnpdeecoejabgaa
open Go Go.RowKit

def r4_0 : List AR := [⟨some 3, .box 27 true 7 (.t 0), [], none⟩,
  ⟨some 6, .mov (.c (.bool false)), [], none⟩]
def r4_1 : List AR := [⟨some 20, .call 12 [], [], none⟩,
  ⟨some 21, .un .not (.t 20), [0], none⟩,
  ⟨some 22, .mov (.t 21), [1, 0], none⟩,
  ⟨some 23, .ld true 7 (.t 3), [2], some (22, false)⟩,
  ⟨some 24, .call 16 [.t 23], [3, 2, 2], some (22, false)⟩,
  ⟨some 25, .un .not (.t 24), [4, 2], some (22, false)⟩,
  ⟨some 26, .pick (.t 22) (.c (.bool true)) (.t 25), [2, 5], none⟩]
def r4_2 : List AR := [⟨some 27, .call 12 [], [], none⟩,
  ⟨some 6, .mov (.t 27), [0, 0, 0], none⟩]
def r4_3 : List AR := [⟨some 28, .ld true 7 (.t 3), [], none⟩,
  ⟨some 29, .call 17 [.t 28], [0], none⟩,
  ⟨some 7, .mov (.t 29), [1, 1, 0, 1], none⟩]
def r4_4 : List AR := [⟨some 8, .alloc 50 true [.nils, .nils, .nils, .nils], [], none⟩]
def r4_5 : List AR := [⟨some 9, .mov (.c (.int .i64 0)), [], none⟩]
def r4_6 : List AR := [⟨some 30, .mov (.t 9), [], none⟩,
  ⟨some 31, .mov (.t 7), [], none⟩,
  ⟨some 32, .lens (.t 31), [1], none⟩,
  ⟨some 33, .bin .lss (.t 30) (.t 32), [0, 2], none⟩]
def r4_7 : List AR := [⟨some 36, .mov (.t 1), [], none⟩,
  ⟨some 37, .mov (.t 9), [], none⟩,
  ⟨some 38, .bin .shr (.t 36) (.t 37), [0, 1], none⟩,
  ⟨some 39, .bin .rem (.t 38) (.c (.int .u8 2)), [2], none⟩,
  ⟨some 40, .bin .eql (.t 39) (.c (.int .u8 0)), [3], none⟩]
def r4_8 : List AR := [⟨some 41, .fad (.t 8) 0, [], none⟩,
  ⟨some 42, .ld false 1 (.t 41), [0], none⟩,
  ⟨some 43, .mov (.t 7), [], none⟩,
  ⟨some 44, .mov (.t 9), [], none⟩,
  ⟨some 45, .iad 3 (.t 43) (.t 44), [2, 3], none⟩,
  ⟨some 46, .ld true 3 (.t 45), [4], none⟩,
  ⟨some 47, .bsl 53 3 1 [.int .i64 0, .int .i64 0, .nils] [(0, .t 46)], [5], none⟩,
  ⟨some 48, .app 53 3 40 [.int .i64 0, .int .i64 0, .nils] (.t 42) (.t 47), [1, 6], none⟩,
  ⟨some 49, .fad (.t 8) 0, [0, 1, 2, 3, 4, 5, 6, 7], none⟩,
  ⟨none, .st 1 (.t 49) (.t 48), [8, 7, 7, 0, 1, 2, 3, 4, 5, 6, 7], none⟩]
def r4_9 : List AR := [⟨some 50, .mov (.t 7), [], none⟩,
  ⟨some 51, .mov (.t 9), [], none⟩,
  ⟨some 52, .iad 3 (.t 50) (.t 51), [0, 1], none⟩,
  ⟨some 53, .fad (.t 52) 0, [2], none⟩,
  ⟨some 54, .ld false 1 (.t 53), [3], none⟩,
  ⟨some 55, .call 18 [.t 54], [4], none⟩,
  ⟨some 10, .mov (.t 55), [5, 5, 0, 1, 2, 3, 4, 5], none⟩]
def r4_10 : List AR := [⟨some 11, .mov (.c (.int .i64 0)), [], none⟩]
def r4_11 : List AR := [⟨some 56, .mov (.t 11), [], none⟩,
  ⟨some 57, .mov (.t 7), [], none⟩,
  ⟨some 58, .mov (.t 9), [], none⟩,
  ⟨some 59, .iad 3 (.t 57) (.t 58), [1, 2], none⟩,
  ⟨some 60, .fad (.t 59) 2, [3], none⟩,
  ⟨some 61, .ld false 1 (.t 60), [4], none⟩,
  ⟨some 62, .lens (.t 61), [5], none⟩,
  ⟨some 63, .bin .lss (.t 56) (.t 62), [0, 6], none⟩]
def r4_12 : List AR := [⟨some 66, .fad (.t 8) 2, [], none⟩,
  ⟨some 67, .ld false 1 (.t 66), [0], none⟩,
  ⟨some 68, .mov (.t 10), [], none⟩,
  ⟨some 69, .mov (.t 7), [], none⟩,
  ⟨some 70, .mov (.t 9), [], none⟩,
  ⟨some 71, .iad 3 (.t 69) (.t 70), [3, 4], none⟩,
  ⟨some 72, .fad (.t 71) 2, [5], none⟩,
  ⟨some 73, .ld false 1 (.t 72), [6], none⟩,
  ⟨some 74, .mov (.t 11), [], none⟩,
  ⟨some 75, .iad 14 (.t 73) (.t 74), [7, 8], none⟩,
  ⟨some 76, .fad (.t 75) 6, [9], none⟩,
  ⟨some 77, .ld false 1 (.t 76), [10], none⟩,
  ⟨some 78, .bld [.int .i64 0, .str ⟨#[]⟩, .int .i64 0, .int .i64 0] [(0, 1, .t 68), (1, 1, .t 77), (2, 1, .c (.int .i64 1))], [2, 11], none⟩,
  ⟨some 79, .bsl 60 4 1 [.int .i64 0, .str ⟨#[]⟩, .int .i64 0, .int .i64 0] [(0, .t 78)], [12], none⟩,
  ⟨some 80, .app 60 4 40 [.int .i64 0, .str ⟨#[]⟩, .int .i64 0, .int .i64 0] (.t 67) (.t 79), [1, 13], none⟩,
  ⟨some 81, .fad (.t 8) 2, [0, 1, 2, 3, 4, 5, 6, 7, 8, 9, 10, 11, 12, 13, 14], none⟩,
  ⟨none, .st 1 (.t 81) (.t 80), [15, 14, 14, 0, 1, 2, 3, 4, 5, 6, 7, 8, 9, 10, 11, 12, 13, 14], none⟩]
def r4_13 : List AR := [⟨some 64, .mov (.t 11), [], none⟩,
  ⟨some 65, .bin .add (.t 64) (.c (.int .i64 1)), [0], none⟩,
  ⟨some 11, .mov (.t 65), [1, 0, 1], none⟩]
def r4_14 : List AR := [⟨some 82, .fad (.t 8) 3, [], none⟩,
  ⟨some 83, .ld false 1 (.t 82), [0], none⟩,
  ⟨some 84, .mov (.t 10), [], none⟩,
  ⟨some 85, .mov (.t 2), [], none⟩,
  ⟨some 86, .bin .rem (.t 85) (.c (.int .u8 3)), [3], none⟩,
  ⟨some 87, .cvi .i64 (.t 86), [4], none⟩,
  ⟨some 88, .bld [.int .i64 0, .int .i64 0] [(0, 1, .t 84), (1, 1, .t 87)], [2, 5], none⟩,
  ⟨some 89, .bsl 62 2 1 [.int .i64 0, .int .i64 0] [(0, .t 88)], [6], none⟩,
  ⟨some 90, .app 62 2 16 [.int .i64 0, .int .i64 0] (.t 83) (.t 89), [1, 7], none⟩,
  ⟨some 91, .fad (.t 8) 3, [0, 1, 2, 3, 4, 5, 6, 7, 8], none⟩,
  ⟨none, .st 1 (.t 91) (.t 90), [9, 8, 8, 0, 1, 2, 3, 4, 5, 6, 7, 8], none⟩]
def r4_15 : List AR := [⟨some 34, .mov (.t 9), [], none⟩,
  ⟨some 35, .bin .add (.t 34) (.c (.int .i64 1)), [0], none⟩,
  ⟨some 9, .mov (.t 35), [1, 0, 1], none⟩]
def r4_16 : List AR := [⟨some 12, .mov (.c (.int .i64 0)), [], none⟩]
def r4_17 : List AR := [⟨some 92, .mov (.t 12), [], none⟩,
  ⟨some 93, .bin .lss (.t 92) (.c (.int .i64 4)), [0], none⟩]
def r4_18 : List AR := [⟨some 96, .bsl 9 1 4 [.str ⟨#[]⟩] [(0, .c (.str ⟨#[97, 112, 105]⟩)), (1, .c (.str ⟨#[100, 98]⟩)), (2, .c (.str ⟨#[119, 101, 98]⟩)), (3, .c (.str ⟨#[99, 97, 99, 104, 101]⟩))], [], none⟩,
  ⟨some 97, .lens (.t 96), [0], none⟩,
  ⟨some 98, .mov (.c (.int .i64 0)), [], none⟩]
def r4_19 : List AR := [⟨some 99, .bin .lss (.t 98) (.t 97), [], none⟩]
def r4_20 : List AR := [⟨some 100, .iad 1 (.t 96) (.t 98), [], none⟩,
  ⟨some 101, .ld false 1 (.t 100), [0], none⟩,
  ⟨some 14, .mov (.t 101), [1, 0, 1], none⟩]
def r4_21 : List AR := [⟨some 15, .mov (.c (.int .i64 0)), [], none⟩]
def r4_22 : List AR := [⟨some 16, .mov (.c (.int .i64 0)), [], none⟩]
def r4_23 : List AR := [⟨some 102, .mov (.t 16), [], none⟩,
  ⟨some 103, .mov (.t 7), [], none⟩,
  ⟨some 104, .lens (.t 103), [1], none⟩,
  ⟨some 105, .bin .lss (.t 102) (.t 104), [0, 2], none⟩]
def r4_24 : List AR := [⟨some 17, .mov (.c (.int .i64 0)), [], none⟩]
def r4_25 : List AR := [⟨some 108, .mov (.t 17), [], none⟩,
  ⟨some 109, .mov (.t 7), [], none⟩,
  ⟨some 110, .mov (.t 16), [], none⟩,
  ⟨some 111, .iad 3 (.t 109) (.t 110), [1, 2], none⟩,
  ⟨some 112, .fad (.t 111) 2, [3], none⟩,
  ⟨some 113, .ld false 1 (.t 112), [4], none⟩,
  ⟨some 114, .lens (.t 113), [5], none⟩,
  ⟨some 115, .bin .lss (.t 108) (.t 114), [0, 6], none⟩]
def r4_26 : List AR := [⟨some 118, .mov (.t 7), [], none⟩,
  ⟨some 119, .mov (.t 16), [], none⟩,
  ⟨some 120, .iad 3 (.t 118) (.t 119), [0, 1], none⟩,
  ⟨some 121, .fad (.t 120) 0, [2], none⟩,
  ⟨some 122, .ld false 1 (.t 121), [3], none⟩,
  ⟨some 123, .call 18 [.t 122], [4], none⟩,
  ⟨some 124, .mov (.t 12), [], none⟩,
  ⟨some 125, .bin .eql (.t 123) (.t 124), [5, 6], none⟩,
  ⟨some 126, .mov (.t 125), [7, 5], none⟩,
  ⟨some 127, .mov (.t 7), [8], some (126, true)⟩,
  ⟨some 128, .mov (.t 16), [8], some (126, true)⟩,
  ⟨some 129, .iad 3 (.t 127) (.t 128), [9, 10, 8], some (126, true)⟩,
  ⟨some 130, .fad (.t 129) 2, [11, 8], some (126, true)⟩,
  ⟨some 131, .ld false 1 (.t 130), [12, 8], some (126, true)⟩,
  ⟨some 132, .mov (.t 17), [8], some (126, true)⟩,
  ⟨some 133, .iad 14 (.t 131) (.t 132), [13, 14, 8], some (126, true)⟩,
  ⟨some 134, .fad (.t 133) 6, [15, 8], some (126, true)⟩,
  ⟨some 135, .ld false 1 (.t 134), [16, 8], some (126, true)⟩,
  ⟨some 136, .mov (.t 14), [8], some (126, true)⟩,
  ⟨some 137, .bin .eql (.t 135) (.t 136), [17, 18, 8], some (126, true)⟩,
  ⟨some 138, .pick (.t 126) (.t 137) (.c (.bool false)), [8, 19], none⟩]
def r4_27 : List AR := [⟨some 139, .mov (.t 15), [], none⟩,
  ⟨some 140, .bin .add (.t 139) (.c (.int .i64 1)), [0], none⟩,
  ⟨some 15, .mov (.t 140), [1, 0, 1], none⟩]
def r4_28 : List AR := [⟨some 116, .mov (.t 17), [], none⟩,
  ⟨some 117, .bin .add (.t 116) (.c (.int .i64 1)), [0], none⟩,
  ⟨some 17, .mov (.t 117), [1, 0, 1], none⟩]
def r4_29 : List AR := [⟨some 106, .mov (.t 16), [], none⟩,
  ⟨some 107, .bin .add (.t 106) (.c (.int .i64 1)), [0], none⟩,
  ⟨some 16, .mov (.t 107), [1, 0, 1], none⟩]
def r4_30 : List AR := [⟨some 142, .ld true 4 (.t 8), [], none⟩,
  ⟨some 143, .mov (.t 12), [], none⟩,
  ⟨some 144, .mov (.t 14), [], none⟩,
  ⟨some 145, .call 19 [.t 142, .t 143, .t 144], [0, 1, 2], none⟩,
  ⟨some 141, .mov (.t 145), [3], none⟩,
  ⟨some 146, .ext (.t 141) 0, [4], none⟩,
  ⟨some 147, .ext (.t 141) 1, [4], none⟩,
  ⟨some 18, .mov (.t 146), [5, 3, 0, 1, 2, 3, 4, 5], none⟩,
  ⟨some 19, .mov (.t 147), [6, 7, 0, 1, 2, 3, 4, 5, 6, 7], none⟩]
def r4_31 : List AR := [⟨some 148, .mov (.t 15), [], none⟩,
  ⟨some 149, .mov (.t 18), [], none⟩,
  ⟨some 150, .bin .lss (.t 148) (.t 149), [0, 1], none⟩,
  ⟨some 151, .mov (.t 150), [2], none⟩,
  ⟨some 152, .mov (.t 15), [3], some (151, false)⟩,
  ⟨some 153, .mov (.t 19), [3], some (151, false)⟩,
  ⟨some 154, .bin .gtr (.t 152) (.t 153), [4, 5, 3], some (151, false)⟩,
  ⟨some 155, .pick (.t 151) (.c (.bool true)) (.t 154), [3, 6], none⟩,
  ⟨some 156, .mov (.t 155), [7, 3], none⟩,
  ⟨some 157, .mov (.t 2), [8], some (156, false)⟩,
  ⟨some 158, .bin .rem (.t 157) (.c (.int .u8 3)), [9, 8], some (156, false)⟩,
  ⟨some 159, .bin .eql (.t 158) (.c (.int .u8 0)), [10, 8], some (156, false)⟩,
  ⟨some 160, .mov (.t 159), [11, 8, 8], some (156, false)⟩,
  ⟨some 161, .mov (.t 18), [12], some (160, true)⟩,
  ⟨some 162, .mov (.t 19), [12], some (160, true)⟩,
  ⟨some 163, .bin .neq (.t 161) (.t 162), [13, 14, 12], some (160, true)⟩,
  ⟨some 164, .pick (.t 160) (.t 163) (.c (.bool false)), [12, 15, 8], some (156, false)⟩,
  ⟨some 165, .pick (.t 156) (.c (.bool true)) (.t 164), [8, 16], none⟩]
def r4_32 : List AR := [⟨some 6, .mov (.c (.bool false)), [], none⟩]
def r4_33 : List AR := [⟨some 166, .bin .add (.t 98) (.c (.int .i64 1)), [], none⟩,
  ⟨some 98, .mov (.t 166), [0], none⟩]
def r4_34 : List AR := [⟨some 94, .mov (.t 12), [], none⟩,
  ⟨some 95, .bin .add (.t 94) (.c (.int .i64 1)), [0], none⟩,
  ⟨some 12, .mov (.t 95), [1, 0, 1], none⟩]
def r4_35 : List AR := [⟨some 6, .mov (.c (.bool true)), [], none⟩]
def c4 : ACode := .seq (.reg r4_0 false) (.seq (.seq (.reg r4_1 false) (.cond (.t 26) (.seq (.reg r4_2 false) (.ret)) (.skip))) (.seq (.reg r4_3 false) (.seq (.reg r4_4 false) (.seq (.seq (.reg r4_5 false) (.blk 0 (.loop (.seq (.seq (.reg r4_6 false) (.cond (.t 33) (.skip) (.exit 0))) (.seq (.blk 1 (.seq (.seq (.reg r4_7 false) (.cond (.t 40) (.seq (.reg r4_8 true) (.exit 1)) (.skip))) (.seq (.reg r4_9 false) (.seq (.seq (.reg r4_10 false) (.blk 2 (.loop (.seq (.seq (.reg r4_11 false) (.cond (.t 63) (.skip) (.exit 2))) (.seq (.blk 3 (.reg r4_12 true)) (.reg r4_13 false)))))) (.reg r4_14 false))))) (.reg r4_15 false)))))) (.seq (.seq (.reg r4_16 false) (.blk 4 (.loop (.seq (.seq (.reg r4_17 false) (.cond (.t 93) (.skip) (.exit 4))) (.seq (.blk 5 (.seq (.reg r4_18 false) (.blk 6 (.loop (.seq (.reg r4_19 false) (.seq (.cond (.t 99) (.skip) (.exit 6)) (.seq (.blk 7 (.seq (.reg r4_20 false) (.seq (.reg r4_21 false) (.seq (.seq (.reg r4_22 false) (.blk 8 (.loop (.seq (.seq (.reg r4_23 false) (.cond (.t 105) (.skip) (.exit 8))) (.seq (.blk 9 (.seq (.reg r4_24 false) (.blk 10 (.loop (.seq (.seq (.reg r4_25 false) (.cond (.t 115) (.skip) (.exit 10))) (.seq (.blk 11 (.seq (.reg r4_26 false) (.cond (.t 138) (.reg r4_27 false) (.skip)))) (.reg r4_28 false))))))) (.reg r4_29 false)))))) (.seq (.reg r4_30 false) (.seq (.reg r4_31 false) (.cond (.t 165) (.seq (.reg r4_32 false) (.ret)) (.skip)))))))) (.reg r4_33 false)))))))) (.reg r4_34 false)))))) (.seq (.reg r4_35 false) (.ret)))))))
theorem body4 : Try.f4.body.map (comp Try.prog 167) = some c4 := by kernel_rfl
theorem res4 : allSome (Try.f4.results.toList.map (compRes Try.prog)) = some [.s 6] := by kernel_rfl
theorem cok4 {S : FSpec} (h : ∀ args K, S args K → args.all argOk = true ∧ args.length ≤ 167 ∧ AW Try.prog 167 (some ownP) c4 (initS args) (retPost [.s 6] args K)) : COK Try.prog 4 S := of_body Try.func4 Try.ntmps4 body4 res4 h

def J4_3 (N4303 : ((List TTrace) × (List TRemoved) × (List TLate) × Int) → Prop) (v4221 : Int) (v4356 : List TTrace) (v4357 : List TRemoved) (v4358 : List TLate) : Prop :=
  N4303 (v4356, v4357, v4358, (w64 (v4221 + 1)))

def L4_4 (x4365 : TTrace) (r4366 : Int) (v4220 : List TLate) (late_4 : Int) (N4303 : ((List TTrace) × (List TRemoved) × (List TLate) × Int) → Prop) (v4221 : Int) (v4218 : List TTrace) (v4378 : List TRemoved) (v4379 : Int) (N4382 : ((List TRemoved) × Int) → Prop) : Prop :=
  Cond (decide (v4379 < (x4365.spans.length : Int))) (Idx x4365.spans v4379 fun x4384 => Fits ((v4378 ++ [(TRemoved.mk r4366 x4384.service 1 0)]).length * 40) (N4382 ((v4378 ++ [(TRemoved.mk r4366 x4384.service 1 0)]), (w64 (v4379 + 1))))) (Fits ((v4220 ++ [(TLate.mk r4366 (w64 (Int.tmod late_4 3)))]).length * 16) (J4_3 N4303 v4221 v4218 v4378 (v4220 ++ [(TLate.mk r4366 (w64 (Int.tmod late_4 3)))])))

def J4_9 (N75111 : (Int × Int) → Prop) (v75084 : Int) (v75130 : Int) : Prop :=
  N75111 (v75130, (w64 (v75084 + 1)))

def J4_10 (N75111 : (Int × Int) → Prop) (v75084 : Int) (v75083 : Int) (v75135 : Bool) : Prop :=
  Cond v75135 (J4_9 N75111 v75084 (w64 (v75083 + 1))) (J4_9 N75111 v75084 v75083)

def L4_8 (r3888 : (List TTrace)) (v74812 : Int) (v51555 : Int) (x74159 : ByteArray) (N74975 : (Int × Int) → Prop) (v75083 : Int) (v75084 : Int) (N75111 : (Int × Int) → Prop) : Prop :=
  Idx r3888 v74812 fun x75115 => Cond (decide (v75084 < (x75115.spans.length : Int))) (W18 x75115.id fun r75136 => Cond (decide (r75136 = v51555)) (Idx x75115.spans v75084 fun x75137 => J4_10 N75111 v75084 v75083 (decide (x75137.service = x74159))) (J4_10 N75111 v75084 v75083 false)) (N74975 (v75083, (w64 (v74812 + 1))))

def J4_11 (K : Bool → Prop) (N73174 : Int → Prop) (v71207 : Int) (v75140 : Bool) : Prop :=
  Cond v75140 (K false) (N73174 (w64 (v71207 + 1)))

def L4_7 (r3888 : (List TTrace)) (v51555 : Int) (x74159 : ByteArray) (v4218 : List TTrace) (v4219 : List TRemoved) (v4220 : List TLate) (K : Bool → Prop) (N73174 : Int → Prop) (v71207 : Int) (late_4 : Int) (v74811 : Int) (v74812 : Int) (N74975 : (Int × Int) → Prop) : Prop :=
  Cond (decide (v74812 < (r3888.length : Int))) (LoopW (fun (s : (Int × Int)) N75111 => L4_8 r3888 v74812 v51555 x74159 N74975 s.1 s.2 N75111) (v74811, 0)) (W19 (TRetained.mk v4218 [] v4219 v4220) v51555 x74159 fun r75139 => Cond (decide (v74811 < r75139.1)) (J4_11 K N73174 v71207 true) (Cond (decide (v74811 > r75139.2)) (J4_11 K N73174 v71207 true) (Cond (decide ((Int.tmod late_4 3) = 0)) (J4_11 K N73174 v71207 (decide (¬ r75139.1 = r75139.2))) (J4_11 K N73174 v71207 false))))

def L4_6 (r3888 : (List TTrace)) (v51555 : Int) (v4218 : List TTrace) (v4219 : List TRemoved) (v4220 : List TLate) (K : Bool → Prop) (late_4 : Int) (N63348 : Int → Prop) (v71207 : Int) (N73174 : Int → Prop) : Prop :=
  Cond (decide (v71207 < 4)) (Idx [(⟨#[97, 112, 105]⟩ : ByteArray), (⟨#[100, 98]⟩ : ByteArray), (⟨#[119, 101, 98]⟩ : ByteArray), (⟨#[99, 97, 99, 104, 101]⟩ : ByteArray)] v71207 fun x74159 => LoopW (fun (s : (Int × Int)) N74975 => L4_7 r3888 v51555 x74159 v4218 v4219 v4220 K N73174 v71207 late_4 s.1 s.2 N74975) (0, 0)) (N63348 (w64 (v51555 + 1)))

def L4_5 (r3888 : (List TTrace)) (v4218 : List TTrace) (v4219 : List TRemoved) (v4220 : List TLate) (K : Bool → Prop) (late_4 : Int) (v51555 : Int) (N63348 : Int → Prop) : Prop :=
  Cond (decide (v51555 < 4)) (LoopW (fun (s : Int) N73174 => L4_6 r3888 v51555 v4218 v4219 v4220 K late_4 N63348 s N73174) 0) (K true)

def L4_2 (r3888 : (List TTrace)) (gone_4 : Int) (late_4 : Int) (K : Bool → Prop) (v4218 : List TTrace) (v4219 : List TRemoved) (v4220 : List TLate) (v4221 : Int) (N4303 : ((List TTrace) × (List TRemoved) × (List TLate) × Int) → Prop) : Prop :=
  Cond (decide (v4221 < (r3888.length : Int))) (0 ≤ v4221 ∧ (Cond (decide ((Int.tmod (Int.fdiv gone_4 (2 ^ (min v4221.toNat (IntKind.bits .u8)))) 2) = 0)) (Idx r3888 v4221 fun x4362 => Fits ((v4218 ++ [x4362]).length * 40) (J4_3 N4303 v4221 (v4218 ++ [x4362]) v4219 v4220)) (Idx r3888 v4221 fun x4365 => W18 x4365.id fun r4366 => LoopW (fun (s : ((List TRemoved) × Int)) N4382 => L4_4 x4365 r4366 v4220 late_4 N4303 v4221 v4218 s.1 s.2 N4382) (v4219, 0)))) (LoopW (fun (s : Int) N63348 => L4_5 r3888 v4218 v4219 v4220 K late_4 s N63348) 0)

def J4_1 (K : Bool → Prop) (s_4 : TStory) (gone_4 : Int) (late_4 : Int) (v3884 : Bool) : Prop :=
  Cond v3884 (W12  fun r3886 => K r3886) (W17 s_4 fun r3888 => LoopW (fun (s : ((List TTrace) × (List TRemoved) × (List TLate) × Int)) N4303 => L4_2 r3888 gone_4 late_4 K s.1 s.2.1 s.2.2.1 s.2.2.2 N4303) ([], [], [], 0))

/-- sleuth/sleuthlaw25.EstimateContains -/
def W4 (s_4 : TStory) (gone_4 : Int) (late_4 : Int) (K : Bool → Prop) : Prop :=
  W12  fun r75141 => Cond (!r75141) (J4_1 K s_4 gone_4 late_4 true) (W16 s_4 fun r75142 => J4_1 K s_4 gone_4 late_4 (!r75142))

def S4 : FSpec := fun args K => ∃ (s_4 : TStory), ∃ (gone_4 : Int), ∃ (late_4 : Int), ∃ (Kr : Bool → Prop), args = [.agg (List.map RC.d (TStory.enc s_4)), .one (.d (.int .u8 gone_4)), .one (.d (.int .u8 late_4))] ∧ W4 s_4 gone_4 late_4 Kr ∧ ∀ r, Kr r → K (.one (.d (.bool r))) []

theorem en4 : enters Try.prog 4 = true := by unfold enters; rw [Try.func4]; rfl
theorem cl4 (s_4 : TStory) (gone_4 : Int) (late_4 : Int) {Kr : Bool → Prop} (h : W4 s_4 gone_4 late_4 Kr) : S4 [.agg (List.map RC.d (TStory.enc s_4)), .one (.d (.int .u8 gone_4)), .one (.d (.int .u8 late_4))] (fun rv rows => ∃ r, rv = (.one (.d (.bool r))) ∧ rows = [] ∧ Kr r) := ⟨s_4, gone_4, late_4, Kr, rfl, h, fun r hr => ⟨r, rfl, rfl, hr⟩⟩

theorem ok4 : COK Try.prog 4 S4 := by
  refine cok4 fun args K0 hS => ?_
  obtain ⟨s_4, gone_4, late_4, K, rfl, h, hK⟩ := hS
  refine ⟨by kernel_rfl, by simp, ?_⟩
  unfold W4 at h
  refine AW.sregL [(0, none), (1, none)] (by kernel_rfl) ?_
  refine l_det (some 3) (.one (.ref 3 1 0 0), [(3, 1, .row true 27 7 [[.d (.sl (List.map TTree.enc s_4.trees)), .d (.int .i8 s_4.offsets.e0), .d (.int .i8 s_4.offsets.e1), .d (.int .i8 s_4.offsets.e2), .d (.int .i8 s_4.offsets.e3), .d (.sl (List.map TSync.enc s_4.syncs)), .d (.int .u8 s_4.wrong)]])]) (by kernel_rfl) ?_
  refine l_det (some 6) (.one (.d (.bool false)), []) (by kernel_rfl) ?_
  refine l_nil ?_
  refine AW.seq ?_
  refine AW.seqL (S := Bool) (fun s => (fun (v3884 : Bool) => [(1, .one (.d (.int .u8 gone_4))), (2, .one (.d (.int .u8 late_4))), (3, .one (.ref 200001 0 0 0)), (26, .one (.d (.bool v3884)))]) s) (fun s => (fun (v3884 : Bool) => [(200001, .expl true 27 7 [[.d (.sl (List.map TTree.enc s_4.trees)), .d (.int .i8 s_4.offsets.e0), .d (.int .i8 s_4.offsets.e1), .d (.int .i8 s_4.offsets.e2), .d (.int .i8 s_4.offsets.e3), .d (.sl (List.map TSync.enc s_4.syncs)), .d (.int .u8 s_4.wrong)]])]) s) (fun s : Bool => J4_1 K s_4 gone_4 late_4 s) ?_ ?_
  · refine AW.regL [(0, none), (1, none), (2, none), (3, none), (4, none), (5, none), (6, none)] (by kernel_rfl) ?_
    refine l_call ok12 en12 (some 20) [] [] [] [] (by kernel_rfl) ⟨by kernel_rfl, by kernel_rfl⟩ (by kernel_rfl) (by kernel_rfl) (by kernel_rfl) (cl12  h) ?_
    rintro hR _ _ ⟨r75141, rfl, rfl, h⟩
    refine ⟨false, (.one (.d (.bool r75141)), []), (fun hz => (by cases hz)), (ret_R hR (by kernel_rfl)), ?_⟩
    refine l_det (some 21) (.one (.d (.bool (!r75141))), []) (by kernel_rfl) ?_
    refine l_det (some 22) (.one (.d (.bool (!r75141))), []) (by kernel_rfl) ?_
    refine l_split (s := 22) (by kernel_rfl) h (fun h => ?_) (fun h => ?_)
    · refine l_det (some 23) (.tup [], []) (by kernel_rfl) ?_
      refine l_skip (some 24) (by kernel_rfl) (by kernel_rfl) (by kernel_rfl) ?_
      refine l_det (some 25) (.tup [], []) (by kernel_rfl) ?_
      refine l_det (some 26) (.one (.d (.bool true)), []) (by kernel_rfl) ?_
      refine l_nil ?_
      refine q_fall ?_
      exact Lab.mk true [(200001, some 3)] (by kernel_rfl) (by kernel_rfl) (by kernel_rfl) (by kernel_rfl) h
    · refine l_det (some 23) (.agg [.d (.sl (List.map TTree.enc s_4.trees)), .d (.int .i8 s_4.offsets.e0), .d (.int .i8 s_4.offsets.e1), .d (.int .i8 s_4.offsets.e2), .d (.int .i8 s_4.offsets.e3), .d (.sl (List.map TSync.enc s_4.syncs)), .d (.int .u8 s_4.wrong)], []) (by kernel_rfl) ?_
      refine l_call ok16 en16 (some 24) [.agg [.d (.sl (List.map TTree.enc s_4.trees)), .d (.int .i8 s_4.offsets.e0), .d (.int .i8 s_4.offsets.e1), .d (.int .i8 s_4.offsets.e2), .d (.int .i8 s_4.offsets.e3), .d (.sl (List.map TSync.enc s_4.syncs)), .d (.int .u8 s_4.wrong)]] [false] [.agg (List.map RC.d [.sl (List.map TTree.enc s_4.trees), .int .i8 s_4.offsets.e0, .int .i8 s_4.offsets.e1, .int .i8 s_4.offsets.e2, .int .i8 s_4.offsets.e3, .sl (List.map TSync.enc s_4.syncs), .int .u8 s_4.wrong])] [] (by kernel_rfl) ⟨by kernel_rfl, by kernel_rfl⟩ (by kernel_rfl) (by kernel_rfl) (by kernel_rfl) (cl16 s_4 h) ?_
      rintro hR _ _ ⟨r75142, rfl, rfl, h⟩
      refine ⟨false, (.one (.d (.bool r75142)), []), (fun hz => (by cases hz)), (ret_R hR (by kernel_rfl)), ?_⟩
      refine l_det (some 25) (.one (.d (.bool (!r75142))), []) (by kernel_rfl) ?_
      refine l_det (some 26) (.one (.d (.bool (!r75142))), []) (by kernel_rfl) ?_
      refine l_nil ?_
      refine q_fall ?_
      exact Lab.mk (!r75142) [(200001, some 3)] (by kernel_rfl) (by kernel_rfl) (by kernel_rfl) (by kernel_rfl) h
  · rintro v3884 h
    have h : J4_1 K s_4 gone_4 late_4 v3884 := h
    unfold J4_1 at h
    refine AW.cond' (by kernel_rfl) h (fun h => ?_) (fun h => ?_)
    · refine AW.sregL [(0, none), (1, none)] (by kernel_rfl) ?_
      refine l_call ok12 en12 (some 27) [] [] [] [] (by kernel_rfl) ⟨by kernel_rfl, by kernel_rfl⟩ (by kernel_rfl) (by kernel_rfl) (by kernel_rfl) (cl12  h) ?_
      rintro hR _ _ ⟨r3886, rfl, rfl, h⟩
      refine ⟨false, (.one (.d (.bool r3886)), []), (fun hz => (by cases hz)), (ret_R hR (by kernel_rfl)), ?_⟩
      refine l_det (some 6) (.one (.d (.bool r3886)), []) (by kernel_rfl) ?_
      refine l_nil ?_
      refine AW.ret ?_
      refine q_ret ?_
      exact q_end [.one (.d (.bool r3886))] [false] [.one (.d (.bool r3886))] [] [] (by kernel_rfl) ⟨by kernel_rfl, by kernel_rfl⟩ (by kernel_rfl) (by kernel_rfl) (by kernel_rfl) (by kernel_rfl) (Eq.mp (by kernel_rfl) (hK r3886 h)) (.inr rfl)
    · refine AW.skip ?_
      refine q_fall ?_
      refine AW.sregL [(0, none), (1, none), (2, none)] (by kernel_rfl) ?_
      refine l_det (some 28) (.agg [.d (.sl (List.map TTree.enc s_4.trees)), .d (.int .i8 s_4.offsets.e0), .d (.int .i8 s_4.offsets.e1), .d (.int .i8 s_4.offsets.e2), .d (.int .i8 s_4.offsets.e3), .d (.sl (List.map TSync.enc s_4.syncs)), .d (.int .u8 s_4.wrong)], []) (by kernel_rfl) ?_
      refine l_call ok17 en17 (some 29) [.agg [.d (.sl (List.map TTree.enc s_4.trees)), .d (.int .i8 s_4.offsets.e0), .d (.int .i8 s_4.offsets.e1), .d (.int .i8 s_4.offsets.e2), .d (.int .i8 s_4.offsets.e3), .d (.sl (List.map TSync.enc s_4.syncs)), .d (.int .u8 s_4.wrong)]] [false] [.agg (List.map RC.d [.sl (List.map TTree.enc s_4.trees), .int .i8 s_4.offsets.e0, .int .i8 s_4.offsets.e1, .int .i8 s_4.offsets.e2, .int .i8 s_4.offsets.e3, .sl (List.map TSync.enc s_4.syncs), .int .u8 s_4.wrong])] [] (by kernel_rfl) ⟨by kernel_rfl, by kernel_rfl⟩ (by kernel_rfl) (by kernel_rfl) (by kernel_rfl) (cl17 s_4 h) ?_
      rintro hR _ _ ⟨r3888, rfl, rfl, h⟩
      refine ⟨false, (.one (.view 29 1 0 ((List.map TTrace.enc r3888).length)), [(29, 1, .row true 53 3 (dmm (List.map TTrace.enc r3888)))]), (fun hz => (by cases hz)), (ret_R hR (by kernel_rfl)), ?_⟩
      refine l_det (some 7) (.one (.view 29 1 0 ((List.map TTrace.enc r3888).length)), []) (by kernel_rfl) ?_
      refine l_nil ?_
      refine AW.sregL [(0, none)] (by kernel_rfl) ?_
      refine l_det (some 8) (.one (.ref 8 1 0 0), [(8, 1, .row true 50 4 [[.nils, .nils, .nils, .nils]])]) (by kernel_rfl) ?_
      refine l_nil ?_
      refine AW.seq ?_
      refine AW.sregL [(0, none)] (by kernel_rfl) ?_
      refine l_det (some 9) (.one (.d (.int .i64 0)), []) (by kernel_rfl) ?_
      refine l_nil ?_
      refine AW.blk ?_
      refine AW.loopL (S := ((List TTrace) × (List TRemoved) × (List TLate) × Int)) (fun s => (fun (v4218 : List TTrace) (v4219 : List TRemoved) (v4220 : List TLate) (v4221 : Int) => [(1, .one (.d (.int .u8 gone_4))), (2, .one (.d (.int .u8 late_4))), (7, .one (.view 200001 0 0 ((List.map TTrace.enc r3888).length))), (8, .one (.ref 200002 0 0 0)), (9, .one (.d (.int .i64 v4221)))]) s.1 s.2.1 s.2.2.1 s.2.2.2) (fun s => (fun (v4218 : List TTrace) (v4219 : List TRemoved) (v4220 : List TLate) (v4221 : Int) => [(200001, .pure true 53 3 (List.map TTrace.enc r3888)), (200002, .expl true 50 4 [[.view 200003 0 0 ((List.map TTrace.enc v4218).length), .nils, .view 200004 0 0 ((List.map TRemoved.enc v4219).length), .view 200005 0 0 ((List.map TLate.enc v4220).length)]]), (200003, .pure true 53 3 (List.map TTrace.enc v4218)), (200004, .pure true 60 4 (List.map TRemoved.enc v4219)), (200005, .pure true 62 2 (List.map TLate.enc v4220))]) s.1 s.2.1 s.2.2.1 s.2.2.2) (fun (s : ((List TTrace) × (List TRemoved) × (List TLate) × Int)) N4303 => L4_2 r3888 gone_4 late_4 K s.1 s.2.1 s.2.2.1 s.2.2.2 N4303) (N := fun s => LoopW (fun (s : ((List TTrace) × (List TRemoved) × (List TLate) × Int)) N4303 => L4_2 r3888 gone_4 late_4 K s.1 s.2.1 s.2.2.1 s.2.2.2 N4303) s) (Lab.mk ([], [], [], 0) [(200001, some 29), (200002, some 8), (200003, none), (200004, none), (200005, none)] (by kernel_rfl) (by kernel_rfl) (by kernel_rfl) (by kernel_rfl) h) (fun _ h => h) ?_
      rintro ⟨v4218, v4219, v4220, v4221⟩ N4303 h
      have h : L4_2 r3888 gone_4 late_4 K v4218 v4219 v4220 v4221 N4303 := h
      unfold L4_2 at h
      refine AW.seq ?_
      refine AW.sregL [(0, none), (1, none), (2, none), (3, none)] (by kernel_rfl) ?_
      refine l_det (some 30) (.one (.d (.int .i64 v4221)), []) (by kernel_rfl) ?_
      refine l_det (some 31) (.one (.view 200001 0 0 ((List.map TTrace.enc r3888).length)), []) (by kernel_rfl) ?_
      refine l_spec (some 32) (.lens (.t 31)) (.one (.d (.int .i64 (r3888.length : Int))), []) (by kernel_rfl) (detA_none (d_lens_v (enc := TTrace.enc) (o := 200001) (g := 0) r3888 (by kernel_rfl))) ?_
      refine l_det (some 33) (.one (.d (.bool (decide (v4221 < (r3888.length : Int))))), []) (by kernel_rfl) ?_
      refine l_nil ?_
      refine AW.cond' (by kernel_rfl) h (fun h => ?_) (fun h => ?_)
      · refine AW.skip ?_
        refine q_fall ?_
        refine AW.seqL (S := ((List TTrace) × (List TRemoved) × (List TLate))) (fun s => (fun (v4356 : List TTrace) (v4357 : List TRemoved) (v4358 : List TLate) => [(1, .one (.d (.int .u8 gone_4))), (2, .one (.d (.int .u8 late_4))), (7, .one (.view 200001 0 0 ((List.map TTrace.enc r3888).length))), (8, .one (.ref 200002 0 0 0)), (9, .one (.d (.int .i64 v4221)))]) s.1 s.2.1 s.2.2) (fun s => (fun (v4356 : List TTrace) (v4357 : List TRemoved) (v4358 : List TLate) => [(200001, .pure true 53 3 (List.map TTrace.enc r3888)), (200002, .expl true 50 4 [[.view 200003 0 0 ((List.map TTrace.enc v4356).length), .nils, .view 200004 0 0 ((List.map TRemoved.enc v4357).length), .view 200005 0 0 ((List.map TLate.enc v4358).length)]]), (200003, .pure true 53 3 (List.map TTrace.enc v4356)), (200004, .pure true 60 4 (List.map TRemoved.enc v4357)), (200005, .pure true 62 2 (List.map TLate.enc v4358))]) s.1 s.2.1 s.2.2) (fun s : ((List TTrace) × (List TRemoved) × (List TLate)) => J4_3 N4303 v4221 s.1 s.2.1 s.2.2) ?_ ?_
        · refine AW.blk ?_
          refine AW.seq ?_
          refine AW.sregL [(0, none), (1, none), (2, none), (3, none), (4, none)] (by kernel_rfl) ?_
          refine l_det (some 36) (.one (.d (.int .u8 gone_4)), []) (by kernel_rfl) ?_
          refine l_det (some 37) (.one (.d (.int .i64 v4221)), []) (by kernel_rfl) ?_
          obtain ⟨h1005, h⟩ := h
          refine l_spec (some 38) (.bin .shr (.t 36) (.t 37)) (.one (.d (.int .u8 (Int.fdiv gone_4 (2 ^ (min v4221.toNat (IntKind.bits .u8)))))), []) (by kernel_rfl) (detA_none (d_shr (k' := .i64) gone_4 v4221 (by kernel_rfl) (by kernel_rfl) h1005)) ?_
          refine l_det (some 39) (.one (.d (.int .u8 (Int.tmod (Int.fdiv gone_4 (2 ^ (min v4221.toNat (IntKind.bits .u8)))) 2))), []) (by kernel_rfl) ?_
          refine l_det (some 40) (.one (.d (.bool (decide ((Int.tmod (Int.fdiv gone_4 (2 ^ (min v4221.toNat (IntKind.bits .u8)))) 2) = 0)))), []) (by kernel_rfl) ?_
          refine l_nil ?_
          refine AW.cond' (by kernel_rfl) h (fun h => ?_) (fun h => ?_)
          · refine AW.sregdL follows_mixed [[], [0], [], [], [2, 3], [2, 3, 4], [2, 3, 4, 5], [0, 1, 2, 3, 4, 5, 6], [0, 1, 2, 3, 4, 5, 6, 7], [0, 1, 2, 3, 4, 5, 6, 7, 8]] [(0, none), (1, some [42, 1200002]), (2, none), (3, none), (4, none), (5, none), (6, some [47]), (7, none), (8, none), (9, none)] (by kernel_rfl) ?_
            refine l_det (some 41) (.one (.ref 200002 0 0 0), []) (by kernel_rfl) ?_
            refine l_det (some 42) (.one (.view 200003 0 0 ((List.map TTrace.enc v4218).length)), []) (by kernel_rfl) ?_
            refine l_det (some 43) (.one (.view 200001 0 0 ((List.map TTrace.enc r3888).length)), []) (by kernel_rfl) ?_
            refine l_det (some 44) (.one (.d (.int .i64 v4221)), []) (by kernel_rfl) ?_
            obtain ⟨h1009, x4362, h1010, h⟩ := h
            refine l_spec (some 45) (.iad 3 (.t 43) (.t 44)) (.one (.ref 200001 0 v4221.toNat 0), []) (by kernel_rfl) (detA_none (d_iad_v (enc := TTrace.enc) (k := .i64) (E := 53) (l := true) (ys := dmm (List.map TTrace.enc r3888)) r3888 x4362 (by kernel_rfl) (by kernel_rfl) (by kernel_rfl) (by kernel_rfl) h1009 h1010)) ?_
            refine l_spec (some 46) (.ld true 3 (.t 45)) (.agg [.d (.int .i64 x4362.id), .d (.int .i64 x4362.weight), .d (.sl (List.map TSpan.enc x4362.spans))], []) (by kernel_rfl) (detA_none (d_ld_row (enc := TTrace.enc) (o := 200001) (g := 0) (i := v4221.toNat) (off := 0) (E := 53) (sz := 3) (l := true) r3888 x4362 (by kernel_rfl) (by kernel_rfl) (by kernel_rfl) h1010 (by kernel_rfl))) ?_
            refine l_det (some 47) (.one (.view 47 1 0 1), [(47, 1, .row true 53 3 [[.d (.int .i64 x4362.id), .d (.int .i64 x4362.weight), .d (.sl (List.map TSpan.enc x4362.spans))]])]) (by kernel_rfl) ?_
            obtain ⟨h1011, h⟩ := h
            refine l_spec (some 48) (.app 53 3 40 [.int .i64 0, .int .i64 0, .nils] (.t 42) (.t 47)) (.one (.view 200003 1 0 ((List.map TTrace.enc (v4218 ++ [x4362])).length)), [(200003, 1, .row true 53 3 (dmm (List.map TTrace.enc (v4218 ++ [x4362]))))]) (by kernel_rfl) (detA_none (d_app_v (enc := TTrace.enc) (xc := .view 47 1 0 1) v4218 [x4362] (by kernel_rfl) (by kernel_rfl) (by kernel_rfl) (by kernel_rfl) (by kernel_rfl) h1011 (by kernel_rfl))) ?_
            refine l_det (some 49) (.one (.ref 200002 0 0 0), []) (by kernel_rfl) ?_
            refine l_det none (.tup [], [(200002, 0, .row true 50 4 [[.view 200003 1 0 ((List.map TTrace.enc (v4218 ++ [x4362])).length), .nils, .view 200004 0 0 ((List.map TRemoved.enc v4219).length), .view 200005 0 0 ((List.map TLate.enc v4220).length)]])]) (by kernel_rfl) ?_
            refine l_nil ?_
            refine AW.exit ?_
            refine q_exit ?_
            refine q_bhere ?_
            refine q_fall ?_
            exact Lab.mk ((v4218 ++ [x4362]), v4219, v4220) [(200001, some 200001), (200002, some 200002), (200003, some 200003), (200004, some 200004), (200005, some 200005)] (by kernel_rfl) (by kernel_rfl) (by kernel_rfl) (by kernel_rfl) h
          · refine AW.skip ?_
            refine q_fall ?_
            refine AW.sregL [(0, none), (1, none), (2, none), (3, none), (4, none), (5, none), (6, none)] (by kernel_rfl) ?_
            refine l_det (some 50) (.one (.view 200001 0 0 ((List.map TTrace.enc r3888).length)), []) (by kernel_rfl) ?_
            refine l_det (some 51) (.one (.d (.int .i64 v4221)), []) (by kernel_rfl) ?_
            obtain ⟨h1015, x4365, h1016, h⟩ := h
            refine l_spec (some 52) (.iad 3 (.t 50) (.t 51)) (.one (.ref 200001 0 v4221.toNat 0), []) (by kernel_rfl) (detA_none (d_iad_v (enc := TTrace.enc) (k := .i64) (E := 53) (l := true) (ys := dmm (List.map TTrace.enc r3888)) r3888 x4365 (by kernel_rfl) (by kernel_rfl) (by kernel_rfl) (by kernel_rfl) h1015 h1016)) ?_
            refine l_det (some 53) (.one (.ref 200001 0 v4221.toNat 0), []) (by kernel_rfl) ?_
            refine l_spec (some 54) (.ld false 1 (.t 53)) (.one (.d (.int .i64 x4365.id)), []) (by kernel_rfl) (detA_none (d_ld_row (enc := TTrace.enc) (o := 200001) (g := 0) (i := v4221.toNat) (off := 0) (E := 53) (sz := 3) (l := true) r3888 x4365 (by kernel_rfl) (by kernel_rfl) (by kernel_rfl) h1016 (by kernel_rfl))) ?_
            refine l_call ok18 en18 (some 55) [.one (.d (.int .i64 x4365.id))] [false] [.one (.d (.int .i64 x4365.id))] [] (by kernel_rfl) ⟨by kernel_rfl, by kernel_rfl⟩ (by kernel_rfl) (by kernel_rfl) (by kernel_rfl) (cl18 x4365.id h) ?_
            rintro hR _ _ ⟨r4366, rfl, rfl, h⟩
            refine ⟨false, (.one (.d (.int .i64 r4366)), []), (fun hz => (by cases hz)), (ret_R hR (by kernel_rfl)), ?_⟩
            refine l_det (some 10) (.one (.d (.int .i64 r4366)), []) (by kernel_rfl) ?_
            refine l_nil ?_
            refine AW.seq ?_
            refine AW.sregL [(0, none)] (by kernel_rfl) ?_
            refine l_det (some 11) (.one (.d (.int .i64 0)), []) (by kernel_rfl) ?_
            refine l_nil ?_
            refine AW.blk ?_
            refine AW.loopL (S := ((List TRemoved) × Int)) (fun s => (fun (v4378 : List TRemoved) (v4379 : Int) => [(1, .one (.d (.int .u8 gone_4))), (2, .one (.d (.int .u8 late_4))), (7, .one (.view 200001 0 0 ((List.map TTrace.enc r3888).length))), (8, .one (.ref 200002 0 0 0)), (9, .one (.d (.int .i64 v4221))), (10, .one (.d (.int .i64 r4366))), (11, .one (.d (.int .i64 v4379)))]) s.1 s.2) (fun s => (fun (v4378 : List TRemoved) (v4379 : Int) => [(200001, .pure true 53 3 (List.map TTrace.enc r3888)), (200002, .expl true 50 4 [[.view 200003 0 0 ((List.map TTrace.enc v4218).length), .nils, .view 200004 0 0 ((List.map TRemoved.enc v4378).length), .view 200005 0 0 ((List.map TLate.enc v4220).length)]]), (200003, .pure true 53 3 (List.map TTrace.enc v4218)), (200004, .pure true 60 4 (List.map TRemoved.enc v4378)), (200005, .pure true 62 2 (List.map TLate.enc v4220))]) s.1 s.2) (fun (s : ((List TRemoved) × Int)) N4382 => L4_4 x4365 r4366 v4220 late_4 N4303 v4221 v4218 s.1 s.2 N4382) (N := fun s => LoopW (fun (s : ((List TRemoved) × Int)) N4382 => L4_4 x4365 r4366 v4220 late_4 N4303 v4221 v4218 s.1 s.2 N4382) s) (Lab.mk (v4219, 0) [(200001, some 200001), (200002, some 200002), (200003, some 200003), (200004, some 200004), (200005, some 200005)] (by kernel_rfl) (by kernel_rfl) (by kernel_rfl) (by kernel_rfl) h) (fun _ h => h) ?_
            rintro ⟨v4378, v4379⟩ N4382 h
            have h : L4_4 x4365 r4366 v4220 late_4 N4303 v4221 v4218 v4378 v4379 N4382 := h
            unfold L4_4 at h
            refine AW.seq ?_
            refine AW.sregL [(0, none), (1, none), (2, none), (3, none), (4, none), (5, none), (6, none), (7, none)] (by kernel_rfl) ?_
            refine l_det (some 56) (.one (.d (.int .i64 v4379)), []) (by kernel_rfl) ?_
            refine l_det (some 57) (.one (.view 200001 0 0 ((List.map TTrace.enc r3888).length)), []) (by kernel_rfl) ?_
            refine l_det (some 58) (.one (.d (.int .i64 v4221)), []) (by kernel_rfl) ?_
            refine l_spec (some 59) (.iad 3 (.t 57) (.t 58)) (.one (.ref 200001 0 v4221.toNat 0), []) (by kernel_rfl) (detA_none (d_iad_v (enc := TTrace.enc) (k := .i64) (E := 53) (l := true) (ys := dmm (List.map TTrace.enc r3888)) r3888 x4365 (by kernel_rfl) (by kernel_rfl) (by kernel_rfl) (by kernel_rfl) h1015 h1016)) ?_
            refine l_det (some 60) (.one (.ref 200001 0 v4221.toNat 2), []) (by kernel_rfl) ?_
            refine l_spec (some 61) (.ld false 1 (.t 60)) (.one (.d (.sl (List.map TSpan.enc x4365.spans))), []) (by kernel_rfl) (detA_none (d_ld_row (enc := TTrace.enc) (o := 200001) (g := 0) (i := v4221.toNat) (off := 2) (E := 53) (sz := 3) (l := true) r3888 x4365 (by kernel_rfl) (by kernel_rfl) (by kernel_rfl) h1016 (by kernel_rfl))) ?_
            refine l_spec (some 62) (.lens (.t 61)) (.one (.d (.int .i64 (x4365.spans.length : Int))), []) (by kernel_rfl) (detA_none (d_lens_sl (enc := TSpan.enc) x4365.spans (by kernel_rfl))) ?_
            refine l_det (some 63) (.one (.d (.bool (decide (v4379 < (x4365.spans.length : Int))))), []) (by kernel_rfl) ?_
            refine l_nil ?_
            refine AW.cond' (by kernel_rfl) h (fun h => ?_) (fun h => ?_)
            · refine AW.skip ?_
              refine q_fall ?_
              refine AW.seq ?_
              refine AW.blk ?_
              refine AW.regdL follows_mixed [[], [0], [], [], [], [3, 4], [3, 4, 5], [3, 4, 5, 6], [], [3, 4, 5, 6, 7, 8], [3, 4, 5, 6, 7, 8, 9], [3, 4, 5, 6, 7, 8, 9, 10], [2, 3, 4, 5, 6, 7, 8, 9, 10, 11], [2, 3, 4, 5, 6, 7, 8, 9, 10, 11, 12], [0, 1, 2, 3, 4, 5, 6, 7, 8, 9, 10, 11, 12, 13], [0, 1, 2, 3, 4, 5, 6, 7, 8, 9, 10, 11, 12, 13, 14], [0, 1, 2, 3, 4, 5, 6, 7, 8, 9, 10, 11, 12, 13, 14, 15]] [(0, none), (1, some [67, 1200002]), (2, none), (3, none), (4, none), (5, none), (6, none), (7, none), (8, none), (9, none), (10, none), (11, none), (12, none), (13, some [79]), (14, none), (15, none), (16, none)] (by kernel_rfl) ?_
              refine l_det (some 66) (.one (.ref 200002 0 0 2), []) (by kernel_rfl) ?_
              refine l_det (some 67) (.one (.view 200004 0 0 ((List.map TRemoved.enc v4378).length)), []) (by kernel_rfl) ?_
              refine l_det (some 68) (.one (.d (.int .i64 r4366)), []) (by kernel_rfl) ?_
              refine l_det (some 69) (.one (.view 200001 0 0 ((List.map TTrace.enc r3888).length)), []) (by kernel_rfl) ?_
              refine l_det (some 70) (.one (.d (.int .i64 v4221)), []) (by kernel_rfl) ?_
              refine l_spec (some 71) (.iad 3 (.t 69) (.t 70)) (.one (.ref 200001 0 v4221.toNat 0), []) (by kernel_rfl) (detA_none (d_iad_v (enc := TTrace.enc) (k := .i64) (E := 53) (l := true) (ys := dmm (List.map TTrace.enc r3888)) r3888 x4365 (by kernel_rfl) (by kernel_rfl) (by kernel_rfl) (by kernel_rfl) h1015 h1016)) ?_
              refine l_det (some 72) (.one (.ref 200001 0 v4221.toNat 2), []) (by kernel_rfl) ?_
              refine l_spec (some 73) (.ld false 1 (.t 72)) (.one (.d (.sl (List.map TSpan.enc x4365.spans))), []) (by kernel_rfl) (detA_none (d_ld_row (enc := TTrace.enc) (o := 200001) (g := 0) (i := v4221.toNat) (off := 2) (E := 53) (sz := 3) (l := true) r3888 x4365 (by kernel_rfl) (by kernel_rfl) (by kernel_rfl) h1016 (by kernel_rfl))) ?_
              refine l_det (some 74) (.one (.d (.int .i64 v4379)), []) (by kernel_rfl) ?_
              obtain ⟨h1051, x4384, h1052, h⟩ := h
              refine l_spec (some 75) (.iad 14 (.t 73) (.t 74)) (.one (.d (.ptr [.int .i64 x4384.trace, .int .i64 x4384.id, .int .i64 x4384.parent, .int .i64 x4384.revision, .int .i64 x4384.clock, .int .i64 x4384.kind, .str x4384.service, .str x4384.version, .str x4384.operation, .int .i64 x4384.start, .int .i64 x4384.end_, .bool x4384.error, .sl (List.map TAttr.enc x4384.attrs), .sl (List.map TRef.enc x4384.links)])), []) (by kernel_rfl) (detA_none (d_iad_sl (enc := TSpan.enc) (k := .i64) x4365.spans x4384 (by kernel_rfl) (by kernel_rfl) h1051 h1052 rfl)) ?_
              refine l_det (some 76) (.one (.d (.ptr [.str x4384.service, .str x4384.version, .str x4384.operation, .int .i64 x4384.start, .int .i64 x4384.end_, .bool x4384.error, .sl (List.map TAttr.enc x4384.attrs), .sl (List.map TRef.enc x4384.links)])), []) (by kernel_rfl) ?_
              refine l_det (some 77) (.one (.d (.str x4384.service)), []) (by kernel_rfl) ?_
              refine l_det (some 78) (.agg [.d (.int .i64 r4366), .d (.str x4384.service), .d (.int .i64 1), .d (.int .i64 0)], []) (by kernel_rfl) ?_
              refine l_det (some 79) (.one (.view 79 1 0 1), [(79, 1, .row true 60 4 [[.d (.int .i64 r4366), .d (.str x4384.service), .d (.int .i64 1), .d (.int .i64 0)]])]) (by kernel_rfl) ?_
              obtain ⟨h1053, h⟩ := h
              refine l_spec (some 80) (.app 60 4 40 [.int .i64 0, .str ⟨#[]⟩, .int .i64 0, .int .i64 0] (.t 67) (.t 79)) (.one (.view 200004 1 0 ((List.map TRemoved.enc (v4378 ++ [(TRemoved.mk r4366 x4384.service 1 0)])).length)), [(200004, 1, .row true 60 4 (dmm (List.map TRemoved.enc (v4378 ++ [(TRemoved.mk r4366 x4384.service 1 0)]))))]) (by kernel_rfl) (detA_none (d_app_v (enc := TRemoved.enc) (xc := .view 79 1 0 1) v4378 [(TRemoved.mk r4366 x4384.service 1 0)] (by kernel_rfl) (by kernel_rfl) (by kernel_rfl) (by kernel_rfl) (by kernel_rfl) h1053 (by kernel_rfl))) ?_
              refine l_det (some 81) (.one (.ref 200002 0 0 2), []) (by kernel_rfl) ?_
              refine l_det none (.tup [], [(200002, 0, .row true 50 4 [[.view 200003 0 0 ((List.map TTrace.enc v4218).length), .nils, .view 200004 1 0 ((List.map TRemoved.enc (v4378 ++ [(TRemoved.mk r4366 x4384.service 1 0)])).length), .view 200005 0 0 ((List.map TLate.enc v4220).length)]])]) (by kernel_rfl) ?_
              refine l_nil ?_
              refine q_bfall ?_
              refine q_fall ?_
              refine AW.regL [(0, none), (1, none), (2, none)] (by kernel_rfl) ?_
              refine l_det (some 64) (.one (.d (.int .i64 v4379)), []) (by kernel_rfl) ?_
              refine l_det (some 65) (.one (.d (.int .i64 (w64 (v4379 + 1)))), []) (by kernel_rfl) ?_
              refine l_det (some 11) (.one (.d (.int .i64 (w64 (v4379 + 1)))), []) (by kernel_rfl) ?_
              refine l_nil ?_
              refine q_fall ?_
              exact Lab.mk ((v4378 ++ [(TRemoved.mk r4366 x4384.service 1 0)]), (w64 (v4379 + 1))) [(200001, some 200001), (200002, some 200002), (200003, some 200003), (200004, some 200004), (200005, some 200005)] (by kernel_rfl) (by kernel_rfl) (by kernel_rfl) (by kernel_rfl) h
            · refine AW.exit ?_
              refine q_exit ?_
              refine q_exit ?_
              refine q_bhere ?_
              refine q_fall ?_
              refine AW.regL [(0, none), (1, none), (2, none), (3, none), (4, none), (5, none), (6, none), (7, none), (8, none), (9, none), (10, none)] (by kernel_rfl) ?_
              refine l_det (some 82) (.one (.ref 200002 0 0 3), []) (by kernel_rfl) ?_
              refine l_det (some 83) (.one (.view 200005 0 0 ((List.map TLate.enc v4220).length)), []) (by kernel_rfl) ?_
              refine l_det (some 84) (.one (.d (.int .i64 r4366)), []) (by kernel_rfl) ?_
              refine l_det (some 85) (.one (.d (.int .u8 late_4)), []) (by kernel_rfl) ?_
              refine l_det (some 86) (.one (.d (.int .u8 (Int.tmod late_4 3))), []) (by kernel_rfl) ?_
              refine l_det (some 87) (.one (.d (.int .i64 (w64 (Int.tmod late_4 3)))), []) (by kernel_rfl) ?_
              refine l_det (some 88) (.agg [.d (.int .i64 r4366), .d (.int .i64 (w64 (Int.tmod late_4 3)))], []) (by kernel_rfl) ?_
              refine l_det (some 89) (.one (.view 89 1 0 1), [(89, 1, .row true 62 2 [[.d (.int .i64 r4366), .d (.int .i64 (w64 (Int.tmod late_4 3)))]])]) (by kernel_rfl) ?_
              obtain ⟨h1054, h⟩ := h
              refine l_spec (some 90) (.app 62 2 16 [.int .i64 0, .int .i64 0] (.t 83) (.t 89)) (.one (.view 200005 1 0 ((List.map TLate.enc (v4220 ++ [(TLate.mk r4366 (w64 (Int.tmod late_4 3)))])).length)), [(200005, 1, .row true 62 2 (dmm (List.map TLate.enc (v4220 ++ [(TLate.mk r4366 (w64 (Int.tmod late_4 3)))]))))]) (by kernel_rfl) (detA_none (d_app_v (enc := TLate.enc) (xc := .view 89 1 0 1) v4220 [(TLate.mk r4366 (w64 (Int.tmod late_4 3)))] (by kernel_rfl) (by kernel_rfl) (by kernel_rfl) (by kernel_rfl) (by kernel_rfl) h1054 (by kernel_rfl))) ?_
              refine l_det (some 91) (.one (.ref 200002 0 0 3), []) (by kernel_rfl) ?_
              refine l_det none (.tup [], [(200002, 0, .row true 50 4 [[.view 200003 0 0 ((List.map TTrace.enc v4218).length), .nils, .view 200004 0 0 ((List.map TRemoved.enc v4378).length), .view 200005 1 0 ((List.map TLate.enc (v4220 ++ [(TLate.mk r4366 (w64 (Int.tmod late_4 3)))])).length)]])]) (by kernel_rfl) ?_
              refine l_nil ?_
              refine q_bfall ?_
              refine q_fall ?_
              exact Lab.mk (v4218, v4378, (v4220 ++ [(TLate.mk r4366 (w64 (Int.tmod late_4 3)))])) [(200001, some 200001), (200002, some 200002), (200003, some 200003), (200004, some 200004), (200005, some 200005)] (by kernel_rfl) (by kernel_rfl) (by kernel_rfl) (by kernel_rfl) h
        · rintro ⟨v4356, v4357, v4358⟩ h
          have h : J4_3 N4303 v4221 v4356 v4357 v4358 := h
          unfold J4_3 at h
          refine AW.regL [(0, none), (1, none), (2, none)] (by kernel_rfl) ?_
          refine l_det (some 34) (.one (.d (.int .i64 v4221)), []) (by kernel_rfl) ?_
          refine l_det (some 35) (.one (.d (.int .i64 (w64 (v4221 + 1)))), []) (by kernel_rfl) ?_
          refine l_det (some 9) (.one (.d (.int .i64 (w64 (v4221 + 1)))), []) (by kernel_rfl) ?_
          refine l_nil ?_
          refine q_fall ?_
          exact Lab.mk (v4356, v4357, v4358, (w64 (v4221 + 1))) [(200001, some 200001), (200002, some 200002), (200003, some 200003), (200004, some 200004), (200005, some 200005)] (by kernel_rfl) (by kernel_rfl) (by kernel_rfl) (by kernel_rfl) h
      · refine AW.exit ?_
        refine q_exit ?_
        refine q_exit ?_
        refine q_bhere ?_
        refine q_fall ?_
        refine AW.seq ?_
        refine AW.sregL [(0, none)] (by kernel_rfl) ?_
        refine l_det (some 12) (.one (.d (.int .i64 0)), []) (by kernel_rfl) ?_
        refine l_nil ?_
        refine AW.blk ?_
        refine AW.loopL (S := Int) (fun s => (fun (v51555 : Int) => [(2, .one (.d (.int .u8 late_4))), (7, .one (.view 200001 0 0 ((List.map TTrace.enc r3888).length))), (8, .one (.ref 200002 0 0 0)), (12, .one (.d (.int .i64 v51555)))]) s) (fun s => (fun (v51555 : Int) => [(200001, .pure true 53 3 (List.map TTrace.enc r3888)), (200002, .expl true 50 4 [[.view 200003 0 0 ((List.map TTrace.enc v4218).length), .nils, .view 200004 0 0 ((List.map TRemoved.enc v4219).length), .view 200005 0 0 ((List.map TLate.enc v4220).length)]]), (200003, .pure true 53 3 (List.map TTrace.enc v4218)), (200004, .pure true 60 4 (List.map TRemoved.enc v4219)), (200005, .pure true 62 2 (List.map TLate.enc v4220))]) s) (fun (s : Int) N63348 => L4_5 r3888 v4218 v4219 v4220 K late_4 s N63348) (N := fun s => LoopW (fun (s : Int) N63348 => L4_5 r3888 v4218 v4219 v4220 K late_4 s N63348) s) (Lab.mk 0 [(200001, some 200001), (200002, some 200002), (200003, some 200003), (200004, some 200004), (200005, some 200005)] (by kernel_rfl) (by kernel_rfl) (by kernel_rfl) (by kernel_rfl) h) (fun _ h => h) ?_
        rintro v51555 N63348 h
        have h : L4_5 r3888 v4218 v4219 v4220 K late_4 v51555 N63348 := h
        unfold L4_5 at h
        refine AW.seq ?_
        refine AW.sregL [(0, none), (1, none)] (by kernel_rfl) ?_
        refine l_det (some 92) (.one (.d (.int .i64 v51555)), []) (by kernel_rfl) ?_
        refine l_det (some 93) (.one (.d (.bool (decide (v51555 < 4)))), []) (by kernel_rfl) ?_
        refine l_nil ?_
        refine AW.cond' (by kernel_rfl) h (fun h => ?_) (fun h => ?_)
        · refine AW.skip ?_
          refine q_fall ?_
          refine AW.seq ?_
          refine AW.blk ?_
          refine AW.sregL [(0, none), (1, none), (2, none)] (by kernel_rfl) ?_
          refine l_det (some 96) (.one (.view 96 1 0 4), [(96, 1, .row true 9 1 [[.d (.str (⟨#[97, 112, 105]⟩ : ByteArray))], [.d (.str (⟨#[100, 98]⟩ : ByteArray))], [.d (.str (⟨#[119, 101, 98]⟩ : ByteArray))], [.d (.str (⟨#[99, 97, 99, 104, 101]⟩ : ByteArray))]])]) (by kernel_rfl) ?_
          refine l_det (some 97) (.one (.d (.int .i64 4)), []) (by kernel_rfl) ?_
          refine l_det (some 98) (.one (.d (.int .i64 0)), []) (by kernel_rfl) ?_
          refine l_nil ?_
          refine AW.blk ?_
          refine AW.loopL (S := Int) (fun s => (fun (v71207 : Int) => [(2, .one (.d (.int .u8 late_4))), (7, .one (.view 200001 0 0 ((List.map TTrace.enc r3888).length))), (8, .one (.ref 200002 0 0 0)), (12, .one (.d (.int .i64 v51555))), (96, .one (.view 200006 0 0 4)), (97, .one (.d (.int .i64 4))), (98, .one (.d (.int .i64 v71207)))]) s) (fun s => (fun (v71207 : Int) => [(200001, .pure true 53 3 (List.map TTrace.enc r3888)), (200002, .expl true 50 4 [[.view 200003 0 0 ((List.map TTrace.enc v4218).length), .nils, .view 200004 0 0 ((List.map TRemoved.enc v4219).length), .view 200005 0 0 ((List.map TLate.enc v4220).length)]]), (200003, .pure true 53 3 (List.map TTrace.enc v4218)), (200004, .pure true 60 4 (List.map TRemoved.enc v4219)), (200005, .pure true 62 2 (List.map TLate.enc v4220)), (200006, .expl true 9 1 [[.d (.str (⟨#[97, 112, 105]⟩ : ByteArray))], [.d (.str (⟨#[100, 98]⟩ : ByteArray))], [.d (.str (⟨#[119, 101, 98]⟩ : ByteArray))], [.d (.str (⟨#[99, 97, 99, 104, 101]⟩ : ByteArray))]])]) s) (fun (s : Int) N73174 => L4_6 r3888 v51555 v4218 v4219 v4220 K late_4 N63348 s N73174) (N := fun s => LoopW (fun (s : Int) N73174 => L4_6 r3888 v51555 v4218 v4219 v4220 K late_4 N63348 s N73174) s) (Lab.mk 0 [(200001, some 200001), (200002, some 200002), (200003, some 200003), (200004, some 200004), (200005, some 200005), (200006, some 96)] (by kernel_rfl) (by kernel_rfl) (by kernel_rfl) (by kernel_rfl) h) (fun _ h => h) ?_
          rintro v71207 N73174 h
          have h : L4_6 r3888 v51555 v4218 v4219 v4220 K late_4 N63348 v71207 N73174 := h
          unfold L4_6 at h
          refine AW.sregL [(0, none)] (by kernel_rfl) ?_
          refine l_det (some 99) (.one (.d (.bool (decide (v71207 < 4)))), []) (by kernel_rfl) ?_
          refine l_nil ?_
          refine AW.seq ?_
          refine AW.cond' (by kernel_rfl) h (fun h => ?_) (fun h => ?_)
          · refine AW.skip ?_
            refine q_fall ?_
            refine AW.seq ?_
            refine AW.blk ?_
            refine AW.sregL [(0, none), (1, none), (2, none)] (by kernel_rfl) ?_
            obtain ⟨h90847, x74159, h90848, h⟩ := h
            refine l_spec (some 100) (.iad 1 (.t 96) (.t 98)) (.one (.ref 200006 0 v71207.toNat 0), []) (by kernel_rfl) (detA_none (d_iad_v (enc := eStr) (k := .i64) (E := 9) (l := true) (ys := dmm (List.map eStr [(⟨#[97, 112, 105]⟩ : ByteArray), (⟨#[100, 98]⟩ : ByteArray), (⟨#[119, 101, 98]⟩ : ByteArray), (⟨#[99, 97, 99, 104, 101]⟩ : ByteArray)])) [(⟨#[97, 112, 105]⟩ : ByteArray), (⟨#[100, 98]⟩ : ByteArray), (⟨#[119, 101, 98]⟩ : ByteArray), (⟨#[99, 97, 99, 104, 101]⟩ : ByteArray)] x74159 (by kernel_rfl) (by kernel_rfl) (by kernel_rfl) (by kernel_rfl) h90847 h90848)) ?_
            refine l_spec (some 101) (.ld false 1 (.t 100)) (.one (.d (.str x74159)), []) (by kernel_rfl) (detA_none (d_ld_row (enc := eStr) (o := 200006) (g := 0) (i := v71207.toNat) (off := 0) (E := 9) (sz := 1) (l := true) [(⟨#[97, 112, 105]⟩ : ByteArray), (⟨#[100, 98]⟩ : ByteArray), (⟨#[119, 101, 98]⟩ : ByteArray), (⟨#[99, 97, 99, 104, 101]⟩ : ByteArray)] x74159 (by kernel_rfl) (by kernel_rfl) (by kernel_rfl) h90848 (by kernel_rfl))) ?_
            refine l_det (some 14) (.one (.d (.str x74159)), []) (by kernel_rfl) ?_
            refine l_nil ?_
            refine AW.sregL [(0, none)] (by kernel_rfl) ?_
            refine l_det (some 15) (.one (.d (.int .i64 0)), []) (by kernel_rfl) ?_
            refine l_nil ?_
            refine AW.seq ?_
            refine AW.sregL [(0, none)] (by kernel_rfl) ?_
            refine l_det (some 16) (.one (.d (.int .i64 0)), []) (by kernel_rfl) ?_
            refine l_nil ?_
            refine AW.blk ?_
            refine AW.loopL (S := (Int × Int)) (fun s => (fun (v74811 : Int) (v74812 : Int) => [(2, .one (.d (.int .u8 late_4))), (7, .one (.view 200001 0 0 ((List.map TTrace.enc r3888).length))), (8, .one (.ref 200002 0 0 0)), (12, .one (.d (.int .i64 v51555))), (14, .one (.d (.str x74159))), (15, .one (.d (.int .i64 v74811))), (16, .one (.d (.int .i64 v74812))), (96, .one (.view 200006 0 0 4)), (97, .one (.d (.int .i64 4))), (98, .one (.d (.int .i64 v71207)))]) s.1 s.2) (fun s => (fun (v74811 : Int) (v74812 : Int) => [(200001, .pure true 53 3 (List.map TTrace.enc r3888)), (200002, .expl true 50 4 [[.view 200003 0 0 ((List.map TTrace.enc v4218).length), .nils, .view 200004 0 0 ((List.map TRemoved.enc v4219).length), .view 200005 0 0 ((List.map TLate.enc v4220).length)]]), (200003, .pure true 53 3 (List.map TTrace.enc v4218)), (200004, .pure true 60 4 (List.map TRemoved.enc v4219)), (200005, .pure true 62 2 (List.map TLate.enc v4220)), (200006, .expl true 9 1 [[.d (.str (⟨#[97, 112, 105]⟩ : ByteArray))], [.d (.str (⟨#[100, 98]⟩ : ByteArray))], [.d (.str (⟨#[119, 101, 98]⟩ : ByteArray))], [.d (.str (⟨#[99, 97, 99, 104, 101]⟩ : ByteArray))]])]) s.1 s.2) (fun (s : (Int × Int)) N74975 => L4_7 r3888 v51555 x74159 v4218 v4219 v4220 K N73174 v71207 late_4 s.1 s.2 N74975) (N := fun s => LoopW (fun (s : (Int × Int)) N74975 => L4_7 r3888 v51555 x74159 v4218 v4219 v4220 K N73174 v71207 late_4 s.1 s.2 N74975) s) (Lab.mk (0, 0) [(200001, some 200001), (200002, some 200002), (200003, some 200003), (200004, some 200004), (200005, some 200005), (200006, some 200006)] (by kernel_rfl) (by kernel_rfl) (by kernel_rfl) (by kernel_rfl) h) (fun _ h => h) ?_
            rintro ⟨v74811, v74812⟩ N74975 h
            have h : L4_7 r3888 v51555 x74159 v4218 v4219 v4220 K N73174 v71207 late_4 v74811 v74812 N74975 := h
            unfold L4_7 at h
            refine AW.seq ?_
            refine AW.sregL [(0, none), (1, none), (2, none), (3, none)] (by kernel_rfl) ?_
            refine l_det (some 102) (.one (.d (.int .i64 v74812)), []) (by kernel_rfl) ?_
            refine l_det (some 103) (.one (.view 200001 0 0 ((List.map TTrace.enc r3888).length)), []) (by kernel_rfl) ?_
            refine l_spec (some 104) (.lens (.t 103)) (.one (.d (.int .i64 (r3888.length : Int))), []) (by kernel_rfl) (detA_none (d_lens_v (enc := TTrace.enc) (o := 200001) (g := 0) r3888 (by kernel_rfl))) ?_
            refine l_det (some 105) (.one (.d (.bool (decide (v74812 < (r3888.length : Int))))), []) (by kernel_rfl) ?_
            refine l_nil ?_
            refine AW.cond' (by kernel_rfl) h (fun h => ?_) (fun h => ?_)
            · refine AW.skip ?_
              refine q_fall ?_
              refine AW.seq ?_
              refine AW.blk ?_
              refine AW.sregL [(0, none)] (by kernel_rfl) ?_
              refine l_det (some 17) (.one (.d (.int .i64 0)), []) (by kernel_rfl) ?_
              refine l_nil ?_
              refine AW.blk ?_
              refine AW.loopL (S := (Int × Int)) (fun s => (fun (v75083 : Int) (v75084 : Int) => [(2, .one (.d (.int .u8 late_4))), (7, .one (.view 200001 0 0 ((List.map TTrace.enc r3888).length))), (8, .one (.ref 200002 0 0 0)), (12, .one (.d (.int .i64 v51555))), (14, .one (.d (.str x74159))), (15, .one (.d (.int .i64 v75083))), (16, .one (.d (.int .i64 v74812))), (17, .one (.d (.int .i64 v75084))), (96, .one (.view 200006 0 0 4)), (97, .one (.d (.int .i64 4))), (98, .one (.d (.int .i64 v71207)))]) s.1 s.2) (fun s => (fun (v75083 : Int) (v75084 : Int) => [(200001, .pure true 53 3 (List.map TTrace.enc r3888)), (200002, .expl true 50 4 [[.view 200003 0 0 ((List.map TTrace.enc v4218).length), .nils, .view 200004 0 0 ((List.map TRemoved.enc v4219).length), .view 200005 0 0 ((List.map TLate.enc v4220).length)]]), (200003, .pure true 53 3 (List.map TTrace.enc v4218)), (200004, .pure true 60 4 (List.map TRemoved.enc v4219)), (200005, .pure true 62 2 (List.map TLate.enc v4220)), (200006, .expl true 9 1 [[.d (.str (⟨#[97, 112, 105]⟩ : ByteArray))], [.d (.str (⟨#[100, 98]⟩ : ByteArray))], [.d (.str (⟨#[119, 101, 98]⟩ : ByteArray))], [.d (.str (⟨#[99, 97, 99, 104, 101]⟩ : ByteArray))]])]) s.1 s.2) (fun (s : (Int × Int)) N75111 => L4_8 r3888 v74812 v51555 x74159 N74975 s.1 s.2 N75111) (N := fun s => LoopW (fun (s : (Int × Int)) N75111 => L4_8 r3888 v74812 v51555 x74159 N74975 s.1 s.2 N75111) s) (Lab.mk (v74811, 0) [(200001, some 200001), (200002, some 200002), (200003, some 200003), (200004, some 200004), (200005, some 200005), (200006, some 200006)] (by kernel_rfl) (by kernel_rfl) (by kernel_rfl) (by kernel_rfl) h) (fun _ h => h) ?_
              rintro ⟨v75083, v75084⟩ N75111 h
              have h : L4_8 r3888 v74812 v51555 x74159 N74975 v75083 v75084 N75111 := h
              unfold L4_8 at h
              refine AW.seq ?_
              refine AW.sregL [(0, none), (1, none), (2, none), (3, none), (4, none), (5, none), (6, none), (7, none)] (by kernel_rfl) ?_
              refine l_det (some 108) (.one (.d (.int .i64 v75084)), []) (by kernel_rfl) ?_
              refine l_det (some 109) (.one (.view 200001 0 0 ((List.map TTrace.enc r3888).length)), []) (by kernel_rfl) ?_
              refine l_det (some 110) (.one (.d (.int .i64 v74812)), []) (by kernel_rfl) ?_
              obtain ⟨h92080, x75115, h92081, h⟩ := h
              refine l_spec (some 111) (.iad 3 (.t 109) (.t 110)) (.one (.ref 200001 0 v74812.toNat 0), []) (by kernel_rfl) (detA_none (d_iad_v (enc := TTrace.enc) (k := .i64) (E := 53) (l := true) (ys := dmm (List.map TTrace.enc r3888)) r3888 x75115 (by kernel_rfl) (by kernel_rfl) (by kernel_rfl) (by kernel_rfl) h92080 h92081)) ?_
              refine l_det (some 112) (.one (.ref 200001 0 v74812.toNat 2), []) (by kernel_rfl) ?_
              refine l_spec (some 113) (.ld false 1 (.t 112)) (.one (.d (.sl (List.map TSpan.enc x75115.spans))), []) (by kernel_rfl) (detA_none (d_ld_row (enc := TTrace.enc) (o := 200001) (g := 0) (i := v74812.toNat) (off := 2) (E := 53) (sz := 3) (l := true) r3888 x75115 (by kernel_rfl) (by kernel_rfl) (by kernel_rfl) h92081 (by kernel_rfl))) ?_
              refine l_spec (some 114) (.lens (.t 113)) (.one (.d (.int .i64 (x75115.spans.length : Int))), []) (by kernel_rfl) (detA_none (d_lens_sl (enc := TSpan.enc) x75115.spans (by kernel_rfl))) ?_
              refine l_det (some 115) (.one (.d (.bool (decide (v75084 < (x75115.spans.length : Int))))), []) (by kernel_rfl) ?_
              refine l_nil ?_
              refine AW.cond' (by kernel_rfl) h (fun h => ?_) (fun h => ?_)
              · refine AW.skip ?_
                refine q_fall ?_
                refine AW.seqL (S := Int) (fun s => (fun (v75130 : Int) => [(2, .one (.d (.int .u8 late_4))), (7, .one (.view 200001 0 0 ((List.map TTrace.enc r3888).length))), (8, .one (.ref 200002 0 0 0)), (12, .one (.d (.int .i64 v51555))), (14, .one (.d (.str x74159))), (15, .one (.d (.int .i64 v75130))), (16, .one (.d (.int .i64 v74812))), (17, .one (.d (.int .i64 v75084))), (96, .one (.view 200006 0 0 4)), (97, .one (.d (.int .i64 4))), (98, .one (.d (.int .i64 v71207)))]) s) (fun s => (fun (v75130 : Int) => [(200001, .pure true 53 3 (List.map TTrace.enc r3888)), (200002, .expl true 50 4 [[.view 200003 0 0 ((List.map TTrace.enc v4218).length), .nils, .view 200004 0 0 ((List.map TRemoved.enc v4219).length), .view 200005 0 0 ((List.map TLate.enc v4220).length)]]), (200003, .pure true 53 3 (List.map TTrace.enc v4218)), (200004, .pure true 60 4 (List.map TRemoved.enc v4219)), (200005, .pure true 62 2 (List.map TLate.enc v4220)), (200006, .expl true 9 1 [[.d (.str (⟨#[97, 112, 105]⟩ : ByteArray))], [.d (.str (⟨#[100, 98]⟩ : ByteArray))], [.d (.str (⟨#[119, 101, 98]⟩ : ByteArray))], [.d (.str (⟨#[99, 97, 99, 104, 101]⟩ : ByteArray))]])]) s) (fun s : Int => J4_9 N75111 v75084 s) ?_ ?_
                · refine AW.blk ?_
                  refine AW.seqL (S := Bool) (fun s => (fun (v75135 : Bool) => [(2, .one (.d (.int .u8 late_4))), (7, .one (.view 200001 0 0 ((List.map TTrace.enc r3888).length))), (8, .one (.ref 200002 0 0 0)), (12, .one (.d (.int .i64 v51555))), (14, .one (.d (.str x74159))), (15, .one (.d (.int .i64 v75083))), (16, .one (.d (.int .i64 v74812))), (17, .one (.d (.int .i64 v75084))), (96, .one (.view 200006 0 0 4)), (97, .one (.d (.int .i64 4))), (98, .one (.d (.int .i64 v71207))), (138, .one (.d (.bool v75135)))]) s) (fun s => (fun (v75135 : Bool) => [(200001, .pure true 53 3 (List.map TTrace.enc r3888)), (200002, .expl true 50 4 [[.view 200003 0 0 ((List.map TTrace.enc v4218).length), .nils, .view 200004 0 0 ((List.map TRemoved.enc v4219).length), .view 200005 0 0 ((List.map TLate.enc v4220).length)]]), (200003, .pure true 53 3 (List.map TTrace.enc v4218)), (200004, .pure true 60 4 (List.map TRemoved.enc v4219)), (200005, .pure true 62 2 (List.map TLate.enc v4220)), (200006, .expl true 9 1 [[.d (.str (⟨#[97, 112, 105]⟩ : ByteArray))], [.d (.str (⟨#[100, 98]⟩ : ByteArray))], [.d (.str (⟨#[119, 101, 98]⟩ : ByteArray))], [.d (.str (⟨#[99, 97, 99, 104, 101]⟩ : ByteArray))]])]) s) (fun s : Bool => J4_10 N75111 v75084 v75083 s) ?_ ?_
                  · refine AW.regL [(0, none), (1, none), (2, none), (3, none), (4, none), (5, none), (6, none), (7, none), (8, none), (9, none), (10, none), (11, none), (12, none), (13, none), (14, none), (15, none), (16, none), (17, none), (18, none), (19, none), (20, none)] (by kernel_rfl) ?_
                    refine l_det (some 118) (.one (.view 200001 0 0 ((List.map TTrace.enc r3888).length)), []) (by kernel_rfl) ?_
                    refine l_det (some 119) (.one (.d (.int .i64 v74812)), []) (by kernel_rfl) ?_
                    refine l_spec (some 120) (.iad 3 (.t 118) (.t 119)) (.one (.ref 200001 0 v74812.toNat 0), []) (by kernel_rfl) (detA_none (d_iad_v (enc := TTrace.enc) (k := .i64) (E := 53) (l := true) (ys := dmm (List.map TTrace.enc r3888)) r3888 x75115 (by kernel_rfl) (by kernel_rfl) (by kernel_rfl) (by kernel_rfl) h92080 h92081)) ?_
                    refine l_det (some 121) (.one (.ref 200001 0 v74812.toNat 0), []) (by kernel_rfl) ?_
                    refine l_spec (some 122) (.ld false 1 (.t 121)) (.one (.d (.int .i64 x75115.id)), []) (by kernel_rfl) (detA_none (d_ld_row (enc := TTrace.enc) (o := 200001) (g := 0) (i := v74812.toNat) (off := 0) (E := 53) (sz := 3) (l := true) r3888 x75115 (by kernel_rfl) (by kernel_rfl) (by kernel_rfl) h92081 (by kernel_rfl))) ?_
                    refine l_call ok18 en18 (some 123) [.one (.d (.int .i64 x75115.id))] [false] [.one (.d (.int .i64 x75115.id))] [] (by kernel_rfl) ⟨by kernel_rfl, by kernel_rfl⟩ (by kernel_rfl) (by kernel_rfl) (by kernel_rfl) (cl18 x75115.id h) ?_
                    rintro hR _ _ ⟨r75136, rfl, rfl, h⟩
                    refine ⟨false, (.one (.d (.int .i64 r75136)), []), (fun hz => (by cases hz)), (ret_R hR (by kernel_rfl)), ?_⟩
                    refine l_det (some 124) (.one (.d (.int .i64 v51555)), []) (by kernel_rfl) ?_
                    refine l_det (some 125) (.one (.d (.bool (decide (r75136 = v51555)))), []) (by kernel_rfl) ?_
                    refine l_det (some 126) (.one (.d (.bool (decide (r75136 = v51555)))), []) (by kernel_rfl) ?_
                    refine l_split (s := 126) (by kernel_rfl) h (fun h => ?_) (fun h => ?_)
                    · refine l_det (some 127) (.one (.view 200001 0 0 ((List.map TTrace.enc r3888).length)), []) (by kernel_rfl) ?_
                      refine l_det (some 128) (.one (.d (.int .i64 v74812)), []) (by kernel_rfl) ?_
                      refine l_spec (some 129) (.iad 3 (.t 127) (.t 128)) (.one (.ref 200001 0 v74812.toNat 0), []) (by kernel_rfl) (detA_none (d_iad_v (enc := TTrace.enc) (k := .i64) (E := 53) (l := true) (ys := dmm (List.map TTrace.enc r3888)) r3888 x75115 (by kernel_rfl) (by kernel_rfl) (by kernel_rfl) (by kernel_rfl) h92080 h92081)) ?_
                      refine l_det (some 130) (.one (.ref 200001 0 v74812.toNat 2), []) (by kernel_rfl) ?_
                      refine l_spec (some 131) (.ld false 1 (.t 130)) (.one (.d (.sl (List.map TSpan.enc x75115.spans))), []) (by kernel_rfl) (detA_none (d_ld_row (enc := TTrace.enc) (o := 200001) (g := 0) (i := v74812.toNat) (off := 2) (E := 53) (sz := 3) (l := true) r3888 x75115 (by kernel_rfl) (by kernel_rfl) (by kernel_rfl) h92081 (by kernel_rfl))) ?_
                      refine l_det (some 132) (.one (.d (.int .i64 v75084)), []) (by kernel_rfl) ?_
                      obtain ⟨h92107, x75137, h92108, h⟩ := h
                      refine l_spec (some 133) (.iad 14 (.t 131) (.t 132)) (.one (.d (.ptr [.int .i64 x75137.trace, .int .i64 x75137.id, .int .i64 x75137.parent, .int .i64 x75137.revision, .int .i64 x75137.clock, .int .i64 x75137.kind, .str x75137.service, .str x75137.version, .str x75137.operation, .int .i64 x75137.start, .int .i64 x75137.end_, .bool x75137.error, .sl (List.map TAttr.enc x75137.attrs), .sl (List.map TRef.enc x75137.links)])), []) (by kernel_rfl) (detA_none (d_iad_sl (enc := TSpan.enc) (k := .i64) x75115.spans x75137 (by kernel_rfl) (by kernel_rfl) h92107 h92108 rfl)) ?_
                      refine l_det (some 134) (.one (.d (.ptr [.str x75137.service, .str x75137.version, .str x75137.operation, .int .i64 x75137.start, .int .i64 x75137.end_, .bool x75137.error, .sl (List.map TAttr.enc x75137.attrs), .sl (List.map TRef.enc x75137.links)])), []) (by kernel_rfl) ?_
                      refine l_det (some 135) (.one (.d (.str x75137.service)), []) (by kernel_rfl) ?_
                      refine l_det (some 136) (.one (.d (.str x74159)), []) (by kernel_rfl) ?_
                      refine l_det (some 137) (.one (.d (.bool (decide (x75137.service = x74159)))), []) (by kernel_rfl) ?_
                      refine l_det (some 138) (.one (.d (.bool (decide (x75137.service = x74159)))), []) (by kernel_rfl) ?_
                      refine l_nil ?_
                      refine q_fall ?_
                      exact Lab.mk (decide (x75137.service = x74159)) [(200001, some 200001), (200002, some 200002), (200003, some 200003), (200004, some 200004), (200005, some 200005), (200006, some 200006)] (by kernel_rfl) (by kernel_rfl) (by kernel_rfl) (by kernel_rfl) h
                    · refine l_det (some 127) (.tup [], []) (by kernel_rfl) ?_
                      refine l_det (some 128) (.tup [], []) (by kernel_rfl) ?_
                      refine l_det (some 129) (.tup [], []) (by kernel_rfl) ?_
                      refine l_det (some 130) (.tup [], []) (by kernel_rfl) ?_
                      refine l_det (some 131) (.tup [], []) (by kernel_rfl) ?_
                      refine l_det (some 132) (.tup [], []) (by kernel_rfl) ?_
                      refine l_det (some 133) (.tup [], []) (by kernel_rfl) ?_
                      refine l_det (some 134) (.tup [], []) (by kernel_rfl) ?_
                      refine l_det (some 135) (.tup [], []) (by kernel_rfl) ?_
                      refine l_det (some 136) (.tup [], []) (by kernel_rfl) ?_
                      refine l_det (some 137) (.tup [], []) (by kernel_rfl) ?_
                      refine l_det (some 138) (.one (.d (.bool false)), []) (by kernel_rfl) ?_
                      refine l_nil ?_
                      refine q_fall ?_
                      exact Lab.mk false [(200001, some 200001), (200002, some 200002), (200003, some 200003), (200004, some 200004), (200005, some 200005), (200006, some 200006)] (by kernel_rfl) (by kernel_rfl) (by kernel_rfl) (by kernel_rfl) h
                  · rintro v75135 h
                    have h : J4_10 N75111 v75084 v75083 v75135 := h
                    unfold J4_10 at h
                    refine AW.cond' (by kernel_rfl) h (fun h => ?_) (fun h => ?_)
                    · refine AW.regL [(0, none), (1, none), (2, none)] (by kernel_rfl) ?_
                      refine l_det (some 139) (.one (.d (.int .i64 v75083)), []) (by kernel_rfl) ?_
                      refine l_det (some 140) (.one (.d (.int .i64 (w64 (v75083 + 1)))), []) (by kernel_rfl) ?_
                      refine l_det (some 15) (.one (.d (.int .i64 (w64 (v75083 + 1)))), []) (by kernel_rfl) ?_
                      refine l_nil ?_
                      refine q_bfall ?_
                      refine q_fall ?_
                      exact Lab.mk (w64 (v75083 + 1)) [(200001, some 200001), (200002, some 200002), (200003, some 200003), (200004, some 200004), (200005, some 200005), (200006, some 200006)] (by kernel_rfl) (by kernel_rfl) (by kernel_rfl) (by kernel_rfl) h
                    · refine AW.skip ?_
                      refine q_bfall ?_
                      refine q_fall ?_
                      exact Lab.mk v75083 [(200001, some 200001), (200002, some 200002), (200003, some 200003), (200004, some 200004), (200005, some 200005), (200006, some 200006)] (by kernel_rfl) (by kernel_rfl) (by kernel_rfl) (by kernel_rfl) h
                · rintro v75130 h
                  have h : J4_9 N75111 v75084 v75130 := h
                  unfold J4_9 at h
                  refine AW.regL [(0, none), (1, none), (2, none)] (by kernel_rfl) ?_
                  refine l_det (some 116) (.one (.d (.int .i64 v75084)), []) (by kernel_rfl) ?_
                  refine l_det (some 117) (.one (.d (.int .i64 (w64 (v75084 + 1)))), []) (by kernel_rfl) ?_
                  refine l_det (some 17) (.one (.d (.int .i64 (w64 (v75084 + 1)))), []) (by kernel_rfl) ?_
                  refine l_nil ?_
                  refine q_fall ?_
                  exact Lab.mk (v75130, (w64 (v75084 + 1))) [(200001, some 200001), (200002, some 200002), (200003, some 200003), (200004, some 200004), (200005, some 200005), (200006, some 200006)] (by kernel_rfl) (by kernel_rfl) (by kernel_rfl) (by kernel_rfl) h
              · refine AW.exit ?_
                refine q_exit ?_
                refine q_exit ?_
                refine q_bhere ?_
                refine q_bfall ?_
                refine q_fall ?_
                refine AW.regL [(0, none), (1, none), (2, none)] (by kernel_rfl) ?_
                refine l_det (some 106) (.one (.d (.int .i64 v74812)), []) (by kernel_rfl) ?_
                refine l_det (some 107) (.one (.d (.int .i64 (w64 (v74812 + 1)))), []) (by kernel_rfl) ?_
                refine l_det (some 16) (.one (.d (.int .i64 (w64 (v74812 + 1)))), []) (by kernel_rfl) ?_
                refine l_nil ?_
                refine q_fall ?_
                exact Lab.mk (v75083, (w64 (v74812 + 1))) [(200001, some 200001), (200002, some 200002), (200003, some 200003), (200004, some 200004), (200005, some 200005), (200006, some 200006)] (by kernel_rfl) (by kernel_rfl) (by kernel_rfl) (by kernel_rfl) h
            · refine AW.exit ?_
              refine q_exit ?_
              refine q_exit ?_
              refine q_bhere ?_
              refine q_fall ?_
              refine AW.sregL [(0, none), (1, none), (2, none), (3, none), (4, none), (5, none), (6, none), (7, none), (8, none)] (by kernel_rfl) ?_
              refine l_det (some 142) (.agg [.view 200003 0 0 ((List.map TTrace.enc v4218).length), .nils, .view 200004 0 0 ((List.map TRemoved.enc v4219).length), .view 200005 0 0 ((List.map TLate.enc v4220).length)], []) (by kernel_rfl) ?_
              refine l_det (some 143) (.one (.d (.int .i64 v51555)), []) (by kernel_rfl) ?_
              refine l_det (some 144) (.one (.d (.str x74159)), []) (by kernel_rfl) ?_
              refine l_call ok19 en19 (some 145) [.agg [.view 200003 0 0 ((List.map TTrace.enc v4218).length), .nils, .view 200004 0 0 ((List.map TRemoved.enc v4219).length), .view 200005 0 0 ((List.map TLate.enc v4220).length)], .one (.d (.int .i64 v51555)), .one (.d (.str x74159))] [false, false, false] [.agg (List.map RC.d [.sl (List.map TTrace.enc v4218), .sl [], .sl (List.map TRemoved.enc v4219), .sl (List.map TLate.enc v4220)]), .one (.d (.int .i64 v51555)), .one (.d (.str x74159))] [200003, 200004, 200005] (by kernel_rfl) (ps_plain (pv_agg (pc_cons (pf_view (E := 53) (sz := 3) (l := true) (List.map TTrace.enc v4218) (by kernel_rfl) (by kernel_rfl) rfl) (pc_cons pf_nils (pc_cons (pf_view (E := 60) (sz := 4) (l := true) (List.map TRemoved.enc v4219) (by kernel_rfl) (by kernel_rfl) rfl) (pc_cons (pf_view (E := 62) (sz := 2) (l := true) (List.map TLate.enc v4220) (by kernel_rfl) (by kernel_rfl) rfl) pc_nil))))) (ps_plain (pv_one pf_d) (ps_plain (pv_one pf_d) ps_nil))) (by kernel_rfl) (by kernel_rfl) (by kernel_rfl) (cl19 (TRetained.mk v4218 [] v4219 v4220) v51555 x74159 h) ?_
              rintro hR _ _ ⟨r75139, rfl, rfl, h⟩
              refine ⟨true, (.tup [.one (.d (.int .i64 r75139.1)), .one (.d (.int .i64 r75139.2))], []), (fun _ => (by kernel_rfl)), (by kernel_rfl), ?_⟩
              refine l_det (some 141) (.tup [.one (.d (.int .i64 r75139.1)), .one (.d (.int .i64 r75139.2))], []) (by kernel_rfl) ?_
              refine l_det (some 146) (.one (.d (.int .i64 r75139.1)), []) (by kernel_rfl) ?_
              refine l_det (some 147) (.one (.d (.int .i64 r75139.2)), []) (by kernel_rfl) ?_
              refine l_det (some 18) (.one (.d (.int .i64 r75139.1)), []) (by kernel_rfl) ?_
              refine l_det (some 19) (.one (.d (.int .i64 r75139.2)), []) (by kernel_rfl) ?_
              refine l_nil ?_
              refine AW.seqL (S := Bool) (fun s => (fun (v75140 : Bool) => [(2, .one (.d (.int .u8 late_4))), (7, .one (.view 200001 0 0 ((List.map TTrace.enc r3888).length))), (8, .one (.ref 200002 0 0 0)), (12, .one (.d (.int .i64 v51555))), (96, .one (.view 200006 0 0 4)), (97, .one (.d (.int .i64 4))), (98, .one (.d (.int .i64 v71207))), (165, .one (.d (.bool v75140)))]) s) (fun s => (fun (v75140 : Bool) => [(200001, .pure true 53 3 (List.map TTrace.enc r3888)), (200002, .expl true 50 4 [[.view 200003 0 0 ((List.map TTrace.enc v4218).length), .nils, .view 200004 0 0 ((List.map TRemoved.enc v4219).length), .view 200005 0 0 ((List.map TLate.enc v4220).length)]]), (200003, .pure true 53 3 (List.map TTrace.enc v4218)), (200004, .pure true 60 4 (List.map TRemoved.enc v4219)), (200005, .pure true 62 2 (List.map TLate.enc v4220)), (200006, .expl true 9 1 [[.d (.str (⟨#[97, 112, 105]⟩ : ByteArray))], [.d (.str (⟨#[100, 98]⟩ : ByteArray))], [.d (.str (⟨#[119, 101, 98]⟩ : ByteArray))], [.d (.str (⟨#[99, 97, 99, 104, 101]⟩ : ByteArray))]])]) s) (fun s : Bool => J4_11 K N73174 v71207 s) ?_ ?_
              · refine AW.regL [(0, none), (1, none), (2, none), (3, none), (4, none), (5, none), (6, none), (7, none), (8, none), (9, none), (10, none), (11, none), (12, none), (13, none), (14, none), (15, none), (16, none), (17, none)] (by kernel_rfl) ?_
                refine l_det (some 148) (.one (.d (.int .i64 v74811)), []) (by kernel_rfl) ?_
                refine l_det (some 149) (.one (.d (.int .i64 r75139.1)), []) (by kernel_rfl) ?_
                refine l_det (some 150) (.one (.d (.bool (decide (v74811 < r75139.1)))), []) (by kernel_rfl) ?_
                refine l_det (some 151) (.one (.d (.bool (decide (v74811 < r75139.1)))), []) (by kernel_rfl) ?_
                refine l_split (s := 151) (by kernel_rfl) h (fun h => ?_) (fun h => ?_)
                · refine l_det (some 152) (.tup [], []) (by kernel_rfl) ?_
                  refine l_det (some 153) (.tup [], []) (by kernel_rfl) ?_
                  refine l_det (some 154) (.tup [], []) (by kernel_rfl) ?_
                  refine l_det (some 155) (.one (.d (.bool true)), []) (by kernel_rfl) ?_
                  refine l_det (some 156) (.one (.d (.bool true)), []) (by kernel_rfl) ?_
                  refine l_det (some 157) (.tup [], []) (by kernel_rfl) ?_
                  refine l_det (some 158) (.tup [], []) (by kernel_rfl) ?_
                  refine l_det (some 159) (.tup [], []) (by kernel_rfl) ?_
                  refine l_det (some 160) (.tup [], []) (by kernel_rfl) ?_
                  refine l_det (some 161) (.tup [], []) (by kernel_rfl) ?_
                  refine l_det (some 162) (.tup [], []) (by kernel_rfl) ?_
                  refine l_det (some 163) (.tup [], []) (by kernel_rfl) ?_
                  refine l_det (some 164) (.tup [], []) (by kernel_rfl) ?_
                  refine l_det (some 165) (.one (.d (.bool true)), []) (by kernel_rfl) ?_
                  refine l_nil ?_
                  refine q_fall ?_
                  exact Lab.mk true [(200001, some 200001), (200002, some 200002), (200003, some 200003), (200004, some 200004), (200005, some 200005), (200006, some 200006)] (by kernel_rfl) (by kernel_rfl) (by kernel_rfl) (by kernel_rfl) h
                · refine l_det (some 152) (.one (.d (.int .i64 v74811)), []) (by kernel_rfl) ?_
                  refine l_det (some 153) (.one (.d (.int .i64 r75139.2)), []) (by kernel_rfl) ?_
                  refine l_det (some 154) (.one (.d (.bool (decide (v74811 > r75139.2)))), []) (by kernel_rfl) ?_
                  refine l_det (some 155) (.one (.d (.bool (decide (v74811 > r75139.2)))), []) (by kernel_rfl) ?_
                  refine l_det (some 156) (.one (.d (.bool (decide (v74811 > r75139.2)))), []) (by kernel_rfl) ?_
                  refine l_split (s := 156) (by kernel_rfl) h (fun h => ?_) (fun h => ?_)
                  · refine l_det (some 157) (.tup [], []) (by kernel_rfl) ?_
                    refine l_det (some 158) (.tup [], []) (by kernel_rfl) ?_
                    refine l_det (some 159) (.tup [], []) (by kernel_rfl) ?_
                    refine l_det (some 160) (.tup [], []) (by kernel_rfl) ?_
                    refine l_det (some 161) (.tup [], []) (by kernel_rfl) ?_
                    refine l_det (some 162) (.tup [], []) (by kernel_rfl) ?_
                    refine l_det (some 163) (.tup [], []) (by kernel_rfl) ?_
                    refine l_det (some 164) (.tup [], []) (by kernel_rfl) ?_
                    refine l_det (some 165) (.one (.d (.bool true)), []) (by kernel_rfl) ?_
                    refine l_nil ?_
                    refine q_fall ?_
                    exact Lab.mk true [(200001, some 200001), (200002, some 200002), (200003, some 200003), (200004, some 200004), (200005, some 200005), (200006, some 200006)] (by kernel_rfl) (by kernel_rfl) (by kernel_rfl) (by kernel_rfl) h
                  · refine l_det (some 157) (.one (.d (.int .u8 late_4)), []) (by kernel_rfl) ?_
                    refine l_det (some 158) (.one (.d (.int .u8 (Int.tmod late_4 3))), []) (by kernel_rfl) ?_
                    refine l_det (some 159) (.one (.d (.bool (decide ((Int.tmod late_4 3) = 0)))), []) (by kernel_rfl) ?_
                    refine l_det (some 160) (.one (.d (.bool (decide ((Int.tmod late_4 3) = 0)))), []) (by kernel_rfl) ?_
                    refine l_split (s := 160) (by kernel_rfl) h (fun h => ?_) (fun h => ?_)
                    · refine l_det (some 161) (.one (.d (.int .i64 r75139.1)), []) (by kernel_rfl) ?_
                      refine l_det (some 162) (.one (.d (.int .i64 r75139.2)), []) (by kernel_rfl) ?_
                      refine l_det (some 163) (.one (.d (.bool (decide (¬ r75139.1 = r75139.2)))), []) (by kernel_rfl) ?_
                      refine l_det (some 164) (.one (.d (.bool (decide (¬ r75139.1 = r75139.2)))), []) (by kernel_rfl) ?_
                      refine l_det (some 165) (.one (.d (.bool (decide (¬ r75139.1 = r75139.2)))), []) (by kernel_rfl) ?_
                      refine l_nil ?_
                      refine q_fall ?_
                      exact Lab.mk (decide (¬ r75139.1 = r75139.2)) [(200001, some 200001), (200002, some 200002), (200003, some 200003), (200004, some 200004), (200005, some 200005), (200006, some 200006)] (by kernel_rfl) (by kernel_rfl) (by kernel_rfl) (by kernel_rfl) h
                    · refine l_det (some 161) (.tup [], []) (by kernel_rfl) ?_
                      refine l_det (some 162) (.tup [], []) (by kernel_rfl) ?_
                      refine l_det (some 163) (.tup [], []) (by kernel_rfl) ?_
                      refine l_det (some 164) (.one (.d (.bool false)), []) (by kernel_rfl) ?_
                      refine l_det (some 165) (.one (.d (.bool false)), []) (by kernel_rfl) ?_
                      refine l_nil ?_
                      refine q_fall ?_
                      exact Lab.mk false [(200001, some 200001), (200002, some 200002), (200003, some 200003), (200004, some 200004), (200005, some 200005), (200006, some 200006)] (by kernel_rfl) (by kernel_rfl) (by kernel_rfl) (by kernel_rfl) h
              · rintro v75140 h
                have h : J4_11 K N73174 v71207 v75140 := h
                unfold J4_11 at h
                refine AW.cond' (by kernel_rfl) h (fun h => ?_) (fun h => ?_)
                · refine AW.sregL [(0, none)] (by kernel_rfl) ?_
                  refine l_det (some 6) (.one (.d (.bool false)), []) (by kernel_rfl) ?_
                  refine l_nil ?_
                  refine AW.ret ?_
                  refine q_bret ?_
                  refine q_ret ?_
                  refine q_ret ?_
                  refine q_bret ?_
                  refine q_bret ?_
                  refine q_ret ?_
                  refine q_ret ?_
                  refine q_bret ?_
                  refine q_ret ?_
                  exact q_end [.one (.d (.bool false))] [false] [.one (.d (.bool false))] [] [] (by kernel_rfl) ⟨by kernel_rfl, by kernel_rfl⟩ (by kernel_rfl) (by kernel_rfl) (by kernel_rfl) (by kernel_rfl) (Eq.mp (by kernel_rfl) (hK false h)) (.inr rfl)
                · refine AW.skip ?_
                  refine q_bfall ?_
                  refine q_fall ?_
                  refine AW.regL [(0, none), (1, none)] (by kernel_rfl) ?_
                  refine l_det (some 166) (.one (.d (.int .i64 (w64 (v71207 + 1)))), []) (by kernel_rfl) ?_
                  refine l_det (some 98) (.one (.d (.int .i64 (w64 (v71207 + 1)))), []) (by kernel_rfl) ?_
                  refine l_nil ?_
                  refine q_fall ?_
                  exact Lab.mk (w64 (v71207 + 1)) [(200001, some 200001), (200002, some 200002), (200003, some 200003), (200004, some 200004), (200005, some 200005), (200006, some 200006)] (by kernel_rfl) (by kernel_rfl) (by kernel_rfl) (by kernel_rfl) h
          · refine AW.exit ?_
            refine q_exit ?_
            refine q_exit ?_
            refine q_bhere ?_
            refine q_bfall ?_
            refine q_fall ?_
            refine AW.regL [(0, none), (1, none), (2, none)] (by kernel_rfl) ?_
            refine l_det (some 94) (.one (.d (.int .i64 v51555)), []) (by kernel_rfl) ?_
            refine l_det (some 95) (.one (.d (.int .i64 (w64 (v51555 + 1)))), []) (by kernel_rfl) ?_
            refine l_det (some 12) (.one (.d (.int .i64 (w64 (v51555 + 1)))), []) (by kernel_rfl) ?_
            refine l_nil ?_
            refine q_fall ?_
            exact Lab.mk (w64 (v51555 + 1)) [(200001, some 200001), (200002, some 200002), (200003, some 200003), (200004, some 200004), (200005, some 200005)] (by kernel_rfl) (by kernel_rfl) (by kernel_rfl) (by kernel_rfl) h
        · refine AW.exit ?_
          refine q_exit ?_
          refine q_exit ?_
          refine q_bhere ?_
          refine q_fall ?_
          refine AW.sregL [(0, none)] (by kernel_rfl) ?_
          refine l_det (some 6) (.one (.d (.bool true)), []) (by kernel_rfl) ?_
          refine l_nil ?_
          refine AW.ret ?_
          exact q_end [.one (.d (.bool true))] [false] [.one (.d (.bool true))] [] [] (by kernel_rfl) ⟨by kernel_rfl, by kernel_rfl⟩ (by kernel_rfl) (by kernel_rfl) (by kernel_rfl) (by kernel_rfl) (Eq.mp (by kernel_rfl) (hK true h)) (.inr rfl)
def r15_0 : List AR := [⟨some 2, .box 37 true 4 (.t 0), [], none⟩,
  ⟨some 3, .box 37 true 4 (.t 1), [], none⟩,
  ⟨some 4, .alloc 37 true [.int .i64 0, .int .i64 0, .int .i64 0, .int .i64 0], [], none⟩]
def r15_1 : List AR := [⟨some 5, .fad (.t 2) 0, [], none⟩,
  ⟨some 6, .ld false 1 (.t 5), [0], none⟩,
  ⟨some 7, .fad (.t 3) 0, [], none⟩,
  ⟨some 8, .ld false 1 (.t 7), [2], none⟩,
  ⟨some 9, .bin .add (.t 6) (.t 8), [1, 3], none⟩,
  ⟨some 10, .fad (.t 2) 1, [], none⟩,
  ⟨some 11, .ld false 1 (.t 10), [5], none⟩,
  ⟨some 12, .fad (.t 3) 1, [], none⟩,
  ⟨some 13, .ld false 1 (.t 12), [7], none⟩,
  ⟨some 14, .bin .add (.t 11) (.t 13), [6, 8], none⟩,
  ⟨some 15, .fad (.t 2) 2, [], none⟩,
  ⟨some 16, .ld false 1 (.t 15), [10], none⟩,
  ⟨some 17, .fad (.t 3) 2, [], none⟩,
  ⟨some 18, .ld false 1 (.t 17), [12], none⟩,
  ⟨some 19, .bin .add (.t 16) (.t 18), [11, 13], none⟩,
  ⟨some 20, .fad (.t 2) 3, [], none⟩,
  ⟨some 21, .ld false 1 (.t 20), [15], none⟩,
  ⟨some 22, .fad (.t 3) 3, [], none⟩,
  ⟨some 23, .ld false 1 (.t 22), [17], none⟩,
  ⟨some 24, .bin .add (.t 21) (.t 23), [16, 18], none⟩,
  ⟨some 25, .bld [.int .i64 0, .int .i64 0, .int .i64 0, .int .i64 0] [(0, 1, .t 9), (1, 1, .t 14), (2, 1, .t 19), (3, 1, .t 24)], [4, 9, 14, 19], none⟩,
  ⟨none, .st 4 (.t 4) (.t 25), [20, 0, 1, 2, 3, 4, 5, 6, 7, 8, 9, 10, 11, 12, 13, 14, 15, 16, 17, 18, 19, 20], none⟩]
def c15 : ACode := .seq (.reg r15_0 false) (.seq (.reg r15_1 false) (.ret))
theorem body15 : Try.f15.body.map (comp Try.prog 26) = some c15 := by kernel_rfl
theorem res15 : allSome (Try.f15.results.toList.map (compRes Try.prog)) = some [.c 4 true 4] := by kernel_rfl
theorem cok15 {S : FSpec} (h : ∀ args K, S args K → args.all argOk = true ∧ args.length ≤ 26 ∧ AW Try.prog 26 (some ownP) c15 (initS args) (retPost [.c 4 true 4] args K)) : COK Try.prog 15 S := of_body Try.func15 Try.ntmps15 body15 res15 h

/-- sleuth/sleuthlaw25.add -/
def W15 (a_15 : TTotal) (b_15 : TTotal) (K : TTotal → Prop) : Prop :=
  K (TTotal.mk (w64 (a_15.spans + b_15.spans)) (w64 (a_15.errors + b_15.errors)) (w64 (a_15.duration + b_15.duration)) (w64 (a_15.traces + b_15.traces)))

def S15 : FSpec := fun args K => ∃ (a_15 : TTotal), ∃ (b_15 : TTotal), ∃ (Kr : TTotal → Prop), args = [.agg (List.map RC.d (TTotal.enc a_15)), .agg (List.map RC.d (TTotal.enc b_15))] ∧ W15 a_15 b_15 Kr ∧ ∀ r, Kr r → K (.agg (List.map RC.d (TTotal.enc r))) []

theorem en15 : enters Try.prog 15 = true := by unfold enters; rw [Try.func15]; rfl
theorem cl15 (a_15 : TTotal) (b_15 : TTotal) {Kr : TTotal → Prop} (h : W15 a_15 b_15 Kr) : S15 [.agg (List.map RC.d (TTotal.enc a_15)), .agg (List.map RC.d (TTotal.enc b_15))] (fun rv rows => ∃ r, rv = (.agg (List.map RC.d (TTotal.enc r))) ∧ rows = [] ∧ Kr r) := ⟨a_15, b_15, Kr, rfl, h, fun r hr => ⟨r, rfl, rfl, hr⟩⟩

theorem ok15 : COK Try.prog 15 S15 := by
  refine cok15 fun args K0 hS => ?_
  obtain ⟨a_15, b_15, K, rfl, h, hK⟩ := hS
  refine ⟨by kernel_rfl, by simp, ?_⟩
  unfold W15 at h
  refine AW.sregL [(0, none), (1, none), (2, none)] (by kernel_rfl) ?_
  refine l_det (some 2) (.one (.ref 2 1 0 0), [(2, 1, .row true 37 4 [[.d (.int .i64 a_15.spans), .d (.int .i64 a_15.errors), .d (.int .i64 a_15.duration), .d (.int .i64 a_15.traces)]])]) (by kernel_rfl) ?_
  refine l_det (some 3) (.one (.ref 3 1 0 0), [(3, 1, .row true 37 4 [[.d (.int .i64 b_15.spans), .d (.int .i64 b_15.errors), .d (.int .i64 b_15.duration), .d (.int .i64 b_15.traces)]])]) (by kernel_rfl) ?_
  refine l_det (some 4) (.one (.ref 4 1 0 0), [(4, 1, .row true 37 4 [[.d (.int .i64 0), .d (.int .i64 0), .d (.int .i64 0), .d (.int .i64 0)]])]) (by kernel_rfl) ?_
  refine l_nil ?_
  refine AW.sregL [(0, none), (1, none), (2, none), (3, none), (4, none), (5, none), (6, none), (7, none), (8, none), (9, none), (10, none), (11, none), (12, none), (13, none), (14, none), (15, none), (16, none), (17, none), (18, none), (19, none), (20, none), (21, none)] (by kernel_rfl) ?_
  refine l_det (some 5) (.one (.ref 2 1 0 0), []) (by kernel_rfl) ?_
  refine l_det (some 6) (.one (.d (.int .i64 a_15.spans)), []) (by kernel_rfl) ?_
  refine l_det (some 7) (.one (.ref 3 1 0 0), []) (by kernel_rfl) ?_
  refine l_det (some 8) (.one (.d (.int .i64 b_15.spans)), []) (by kernel_rfl) ?_
  refine l_det (some 9) (.one (.d (.int .i64 (w64 (a_15.spans + b_15.spans)))), []) (by kernel_rfl) ?_
  refine l_det (some 10) (.one (.ref 2 1 0 1), []) (by kernel_rfl) ?_
  refine l_det (some 11) (.one (.d (.int .i64 a_15.errors)), []) (by kernel_rfl) ?_
  refine l_det (some 12) (.one (.ref 3 1 0 1), []) (by kernel_rfl) ?_
  refine l_det (some 13) (.one (.d (.int .i64 b_15.errors)), []) (by kernel_rfl) ?_
  refine l_det (some 14) (.one (.d (.int .i64 (w64 (a_15.errors + b_15.errors)))), []) (by kernel_rfl) ?_
  refine l_det (some 15) (.one (.ref 2 1 0 2), []) (by kernel_rfl) ?_
  refine l_det (some 16) (.one (.d (.int .i64 a_15.duration)), []) (by kernel_rfl) ?_
  refine l_det (some 17) (.one (.ref 3 1 0 2), []) (by kernel_rfl) ?_
  refine l_det (some 18) (.one (.d (.int .i64 b_15.duration)), []) (by kernel_rfl) ?_
  refine l_det (some 19) (.one (.d (.int .i64 (w64 (a_15.duration + b_15.duration)))), []) (by kernel_rfl) ?_
  refine l_det (some 20) (.one (.ref 2 1 0 3), []) (by kernel_rfl) ?_
  refine l_det (some 21) (.one (.d (.int .i64 a_15.traces)), []) (by kernel_rfl) ?_
  refine l_det (some 22) (.one (.ref 3 1 0 3), []) (by kernel_rfl) ?_
  refine l_det (some 23) (.one (.d (.int .i64 b_15.traces)), []) (by kernel_rfl) ?_
  refine l_det (some 24) (.one (.d (.int .i64 (w64 (a_15.traces + b_15.traces)))), []) (by kernel_rfl) ?_
  refine l_det (some 25) (.agg [.d (.int .i64 (w64 (a_15.spans + b_15.spans))), .d (.int .i64 (w64 (a_15.errors + b_15.errors))), .d (.int .i64 (w64 (a_15.duration + b_15.duration))), .d (.int .i64 (w64 (a_15.traces + b_15.traces)))], []) (by kernel_rfl) ?_
  refine l_det none (.tup [], [(4, 1, .row true 37 4 [[.d (.int .i64 (w64 (a_15.spans + b_15.spans))), .d (.int .i64 (w64 (a_15.errors + b_15.errors))), .d (.int .i64 (w64 (a_15.duration + b_15.duration))), .d (.int .i64 (w64 (a_15.traces + b_15.traces)))]])]) (by kernel_rfl) ?_
  refine l_nil ?_
  refine AW.ret ?_
  exact q_end [.agg [.d (.int .i64 (w64 (a_15.spans + b_15.spans))), .d (.int .i64 (w64 (a_15.errors + b_15.errors))), .d (.int .i64 (w64 (a_15.duration + b_15.duration))), .d (.int .i64 (w64 (a_15.traces + b_15.traces)))]] [false] [.agg (List.map RC.d [.int .i64 (w64 (a_15.spans + b_15.spans)), .int .i64 (w64 (a_15.errors + b_15.errors)), .int .i64 (w64 (a_15.duration + b_15.duration)), .int .i64 (w64 (a_15.traces + b_15.traces))])] [] [] (by kernel_rfl) ⟨by kernel_rfl, by kernel_rfl⟩ (by kernel_rfl) (by kernel_rfl) (by kernel_rfl) (by kernel_rfl) (Eq.mp (by kernel_rfl) (hK (TTotal.mk (w64 (a_15.spans + b_15.spans)) (w64 (a_15.errors + b_15.errors)) (w64 (a_15.duration + b_15.duration)) (w64 (a_15.traces + b_15.traces))) h)) (.inr rfl)
def r3_0 : List AR := [⟨some 2, .box 27 true 7 (.t 0), [], none⟩,
  ⟨some 3, .box 28 true 3 (.t 1), [], none⟩,
  ⟨some 4, .mov (.c (.bool false)), [], none⟩]
def r3_1 : List AR := [⟨some 15, .call 12 [], [], none⟩,
  ⟨some 16, .un .not (.t 15), [0], none⟩]
def r3_2 : List AR := [⟨some 4, .mov (.c (.bool false)), [], none⟩]
def r3_3 : List AR := [⟨some 17, .ld true 7 (.t 2), [], none⟩,
  ⟨some 18, .ld true 3 (.t 3), [], none⟩,
  ⟨some 19, .call 13 [.t 17, .t 18], [0, 1], none⟩,
  ⟨some 5, .mov (.t 19), [2, 2, 0, 1, 2], none⟩]
def r3_4 : List AR := [⟨some 21, .mov (.t 5), [], none⟩,
  ⟨some 22, .call 14 [.t 21, .c (.int .i64 1)], [0], none⟩,
  ⟨some 20, .mov (.t 22), [1], none⟩,
  ⟨some 23, .ext (.t 20) 0, [2], none⟩,
  ⟨some 24, .ext (.t 20) 1, [2], none⟩,
  ⟨some 6, .mov (.t 23), [3, 1, 0, 1, 2, 3], none⟩,
  ⟨some 7, .mov (.t 24), [4, 5, 0, 1, 2, 3, 4, 5], none⟩]
def r3_5 : List AR := [⟨some 25, .mov (.t 7), [], none⟩,
  ⟨some 26, .bin .neq (.t 25) (.c (.int .i64 0)), [0], none⟩]
def r3_6 : List AR := [⟨some 4, .mov (.c (.bool false)), [], none⟩]
def r3_7 : List AR := [⟨some 8, .mov (.c (.int .i64 2)), [], none⟩]
def r3_8 : List AR := [⟨some 27, .mov (.t 8), [], none⟩,
  ⟨some 28, .bin .leq (.t 27) (.c (.int .i64 3)), [0], none⟩]
def r3_9 : List AR := [⟨some 32, .mov (.t 5), [], none⟩,
  ⟨some 33, .mov (.t 8), [], none⟩,
  ⟨some 34, .call 14 [.t 32, .t 33], [0, 1], none⟩,
  ⟨some 31, .mov (.t 34), [2], none⟩,
  ⟨some 35, .ext (.t 31) 0, [3], none⟩,
  ⟨some 36, .ext (.t 31) 1, [3], none⟩,
  ⟨some 9, .mov (.t 35), [4, 2, 0, 1, 2, 3, 4], none⟩,
  ⟨some 10, .mov (.t 36), [5, 6, 0, 1, 2, 3, 4, 5, 6], none⟩]
def r3_10 : List AR := [⟨some 37, .mov (.t 10), [], none⟩,
  ⟨some 38, .bin .neq (.t 37) (.c (.int .i64 0)), [0], none⟩]
def r3_11 : List AR := [⟨some 4, .mov (.c (.bool false)), [], none⟩]
def r3_12 : List AR := [⟨some 11, .mov (.c (.int .i64 0)), [], none⟩]
def r3_13 : List AR := [⟨some 39, .mov (.t 11), [], none⟩,
  ⟨some 40, .mov (.t 6), [], none⟩,
  ⟨some 41, .lens (.t 40), [1], none⟩,
  ⟨some 42, .bin .lss (.t 39) (.t 41), [0, 2], none⟩]
def r3_14 : List AR := [⟨some 12, .alloc 37 true [.int .i64 0, .int .i64 0, .int .i64 0, .int .i64 0], [], none⟩]
def r3_15 : List AR := [⟨some 13, .mov (.c (.int .i64 0)), [], none⟩]
def r3_16 : List AR := [⟨some 45, .mov (.t 13), [], none⟩,
  ⟨some 46, .mov (.t 9), [], none⟩,
  ⟨some 47, .lens (.t 46), [1], none⟩,
  ⟨some 48, .bin .lss (.t 45) (.t 47), [0, 2], none⟩]
def r3_17 : List AR := [⟨some 51, .mov (.t 9), [], none⟩,
  ⟨some 52, .mov (.t 13), [], none⟩,
  ⟨some 53, .iad 7 (.t 51) (.t 52), [0, 1], none⟩,
  ⟨some 54, .fad (.t 53) 0, [2], none⟩,
  ⟨some 55, .fad (.t 54) 0, [3], none⟩,
  ⟨some 56, .ld false 1 (.t 55), [4], none⟩,
  ⟨some 57, .mov (.t 6), [], none⟩,
  ⟨some 58, .mov (.t 11), [], none⟩,
  ⟨some 59, .iad 7 (.t 57) (.t 58), [6, 7], none⟩,
  ⟨some 60, .fad (.t 59) 0, [8], none⟩,
  ⟨some 61, .fad (.t 60) 0, [9], none⟩,
  ⟨some 62, .ld false 1 (.t 61), [10], none⟩,
  ⟨some 63, .bin .eql (.t 56) (.t 62), [5, 11], none⟩]
def r3_18 : List AR := [⟨some 64, .mov (.t 9), [], none⟩,
  ⟨some 65, .mov (.t 13), [], none⟩,
  ⟨some 66, .iad 7 (.t 64) (.t 65), [0, 1], none⟩,
  ⟨some 67, .fad (.t 66) 3, [2], none⟩,
  ⟨some 68, .fad (.t 67) 3, [3], none⟩,
  ⟨some 69, .ld false 1 (.t 68), [4], none⟩,
  ⟨some 70, .mov (.t 6), [], none⟩,
  ⟨some 71, .mov (.t 11), [], none⟩,
  ⟨some 72, .iad 7 (.t 70) (.t 71), [6, 7], none⟩,
  ⟨some 73, .fad (.t 72) 3, [8], none⟩,
  ⟨some 74, .fad (.t 73) 3, [9], none⟩,
  ⟨some 75, .ld false 1 (.t 74), [10], none⟩,
  ⟨some 76, .bin .gtr (.t 69) (.t 75), [5, 11], none⟩]
def r3_19 : List AR := [⟨some 4, .mov (.c (.bool false)), [], none⟩]
def r3_20 : List AR := [⟨some 77, .ld true 4 (.t 12), [], none⟩,
  ⟨some 78, .mov (.t 9), [], none⟩,
  ⟨some 79, .mov (.t 13), [], none⟩,
  ⟨some 80, .iad 7 (.t 78) (.t 79), [1, 2], none⟩,
  ⟨some 81, .fad (.t 80) 3, [3], none⟩,
  ⟨some 82, .ld true 4 (.t 81), [4], none⟩,
  ⟨some 83, .call 15 [.t 77, .t 82], [0, 5], none⟩,
  ⟨none, .st 4 (.t 12) (.t 83), [6, 6, 0, 1, 2, 3, 4, 5, 6], none⟩]
def r3_21 : List AR := [⟨some 49, .mov (.t 13), [], none⟩,
  ⟨some 50, .bin .add (.t 49) (.c (.int .i64 1)), [0], none⟩,
  ⟨some 13, .mov (.t 50), [1, 0, 1], none⟩]
def r3_22 : List AR := [⟨some 84, .mov (.t 6), [], none⟩,
  ⟨some 85, .mov (.t 11), [], none⟩,
  ⟨some 86, .iad 7 (.t 84) (.t 85), [0, 1], none⟩,
  ⟨some 87, .fad (.t 86) 3, [2], none⟩,
  ⟨some 88, .ld true 4 (.t 87), [3], none⟩,
  ⟨some 14, .alloc 37 true [.int .i64 0, .int .i64 0, .int .i64 0, .int .i64 0], [], none⟩,
  ⟨none, .st 4 (.t 14) (.t 88), [5, 4, 0, 1, 2, 3, 4, 5], none⟩]
def r3_23 : List AR := [⟨some 89, .fad (.t 12) 0, [], none⟩,
  ⟨some 90, .ld false 1 (.t 89), [0], none⟩,
  ⟨some 91, .fad (.t 14) 0, [], none⟩,
  ⟨some 92, .ld false 1 (.t 91), [2], none⟩,
  ⟨some 93, .bin .neq (.t 90) (.t 92), [1, 3], none⟩,
  ⟨some 94, .mov (.t 93), [4], none⟩,
  ⟨some 95, .fad (.t 12) 1, [5], some (94, false)⟩,
  ⟨some 96, .ld false 1 (.t 95), [6, 5], some (94, false)⟩,
  ⟨some 97, .fad (.t 14) 1, [5], some (94, false)⟩,
  ⟨some 98, .ld false 1 (.t 97), [8, 5], some (94, false)⟩,
  ⟨some 99, .bin .neq (.t 96) (.t 98), [7, 9, 5], some (94, false)⟩,
  ⟨some 100, .pick (.t 94) (.c (.bool true)) (.t 99), [5, 10], none⟩,
  ⟨some 101, .mov (.t 100), [11, 5], none⟩,
  ⟨some 102, .fad (.t 12) 2, [12], some (101, false)⟩,
  ⟨some 103, .ld false 1 (.t 102), [13, 12], some (101, false)⟩,
  ⟨some 104, .fad (.t 14) 2, [12], some (101, false)⟩,
  ⟨some 105, .ld false 1 (.t 104), [15, 12], some (101, false)⟩,
  ⟨some 106, .bin .neq (.t 103) (.t 105), [14, 16, 12], some (101, false)⟩,
  ⟨some 107, .pick (.t 101) (.c (.bool true)) (.t 106), [12, 17], none⟩,
  ⟨some 108, .mov (.t 107), [18, 12], none⟩,
  ⟨some 109, .fad (.t 14) 3, [19], some (108, false)⟩,
  ⟨some 110, .ld false 1 (.t 109), [20, 19], some (108, false)⟩,
  ⟨some 111, .fad (.t 12) 3, [19], some (108, false)⟩,
  ⟨some 112, .ld false 1 (.t 111), [22, 19], some (108, false)⟩,
  ⟨some 113, .bin .gtr (.t 110) (.t 112), [21, 23, 19], some (108, false)⟩,
  ⟨some 114, .pick (.t 108) (.c (.bool true)) (.t 113), [19, 24], none⟩]
def r3_24 : List AR := [⟨some 4, .mov (.c (.bool false)), [], none⟩]
def r3_25 : List AR := [⟨some 43, .mov (.t 11), [], none⟩,
  ⟨some 44, .bin .add (.t 43) (.c (.int .i64 1)), [0], none⟩,
  ⟨some 11, .mov (.t 44), [1, 0, 1], none⟩]
def r3_26 : List AR := [⟨some 29, .mov (.t 8), [], none⟩,
  ⟨some 30, .bin .add (.t 29) (.c (.int .i64 1)), [0], none⟩,
  ⟨some 8, .mov (.t 30), [1, 0, 1], none⟩]
def r3_27 : List AR := [⟨some 4, .mov (.c (.bool true)), [], none⟩]
def c3 : ACode := .seq (.reg r3_0 false) (.seq (.seq (.reg r3_1 false) (.cond (.t 16) (.seq (.reg r3_2 false) (.ret)) (.skip))) (.seq (.reg r3_3 false) (.seq (.reg r3_4 false) (.seq (.seq (.reg r3_5 false) (.cond (.t 26) (.seq (.reg r3_6 false) (.ret)) (.skip))) (.seq (.seq (.reg r3_7 false) (.blk 0 (.loop (.seq (.seq (.reg r3_8 false) (.cond (.t 28) (.skip) (.exit 0))) (.seq (.blk 1 (.seq (.reg r3_9 false) (.seq (.seq (.reg r3_10 false) (.cond (.t 38) (.seq (.reg r3_11 false) (.ret)) (.skip))) (.seq (.reg r3_12 false) (.blk 2 (.loop (.seq (.seq (.reg r3_13 false) (.cond (.t 42) (.skip) (.exit 2))) (.seq (.blk 3 (.seq (.reg r3_14 false) (.seq (.seq (.reg r3_15 false) (.blk 4 (.loop (.seq (.seq (.reg r3_16 false) (.cond (.t 48) (.skip) (.exit 4))) (.seq (.blk 5 (.seq (.reg r3_17 true) (.cond (.t 63) (.seq (.seq (.reg r3_18 true) (.cond (.t 76) (.seq (.reg r3_19 false) (.ret)) (.skip))) (.reg r3_20 true)) (.skip)))) (.reg r3_21 false)))))) (.seq (.reg r3_22 false) (.seq (.reg r3_23 false) (.cond (.t 114) (.seq (.reg r3_24 false) (.ret)) (.skip))))))) (.reg r3_25 false))))))))) (.reg r3_26 false)))))) (.seq (.reg r3_27 false) (.ret)))))))
theorem body3 : Try.f3.body.map (comp Try.prog 115) = some c3 := by kernel_rfl
theorem res3 : allSome (Try.f3.results.toList.map (compRes Try.prog)) = some [.s 4] := by kernel_rfl
theorem cok3 {S : FSpec} (h : ∀ args K, S args K → args.all argOk = true ∧ args.length ≤ 115 ∧ AW Try.prog 115 (some ownP) c3 (initS args) (retPost [.s 4] args K)) : COK Try.prog 3 S := of_body Try.func3 Try.ntmps3 body3 res3 h

def J3_4 (N84468 : (Int × Int × Int × Int × Int) → Prop) (v84448 : Int) (v84479 : Int) (v84480 : Int) (v84481 : Int) (v84482 : Int) : Prop :=
  N84468 (v84479, v84480, v84481, v84482, (w64 (v84448 + 1)))

def J3_5 (K : Bool → Prop) (N84232 : Int → Prop) (v83973 : Int) (v84490 : Bool) : Prop :=
  Cond v84490 (K false) (N84232 (w64 (v83973 + 1)))

def L3_3 (r83714 : ((List TLine) × Int)) (r75150 : ((List TLine) × Int)) (v83973 : Int) (K : Bool → Prop) (N84232 : Int → Prop) (v84444 : Int) (v84445 : Int) (v84446 : Int) (v84447 : Int) (v84448 : Int) (N84468 : (Int × Int × Int × Int × Int) → Prop) : Prop :=
  Cond (decide (v84448 < (r83714.1.length : Int))) (Idx r83714.1 v84448 fun x84485 => Idx r75150.1 v83973 fun x84486 => Cond (decide (x84485.group.service = x84486.group.service)) (Cond (decide (x84485.total.traces > x84486.total.traces)) (K false) (W15 (TTotal.mk v84444 v84445 v84446 v84447) x84485.total fun r84487 => J3_4 N84468 v84448 r84487.spans r84487.errors r84487.duration r84487.traces)) (J3_4 N84468 v84448 v84444 v84445 v84446 v84447)) (Idx r75150.1 v83973 fun x84489 => Cond (decide (¬ v84444 = x84489.total.spans)) (J3_5 K N84232 v83973 true) (Cond (decide (¬ v84445 = x84489.total.errors)) (J3_5 K N84232 v83973 true) (Cond (decide (¬ v84446 = x84489.total.duration)) (J3_5 K N84232 v83973 true) (J3_5 K N84232 v83973 (decide (x84489.total.traces > v84447))))))

def L3_2 (r75150 : ((List TLine) × Int)) (r83714 : ((List TLine) × Int)) (K : Bool → Prop) (N82934 : Int → Prop) (v81377 : Int) (v83973 : Int) (N84232 : Int → Prop) : Prop :=
  Cond (decide (v83973 < (r75150.1.length : Int))) (LoopW (fun (s : (Int × Int × Int × Int × Int)) N84468 => L3_3 r83714 r75150 v83973 K N84232 s.1 s.2.1 s.2.2.1 s.2.2.2.1 s.2.2.2.2 N84468) (0, 0, 0, 0, 0)) (N82934 (w64 (v81377 + 1)))

def L3_1 (r75148 : (List TTrace)) (K : Bool → Prop) (r75150 : ((List TLine) × Int)) (v81377 : Int) (N82934 : Int → Prop) : Prop :=
  Cond (decide (v81377 ≤ 3)) (W14 r75148 v81377 fun r83714 => Cond (decide (¬ r83714.2 = 0)) (K false) (LoopW (fun (s : Int) N84232 => L3_2 r75150 r83714 K N82934 v81377 s N84232) 0)) (K true)

/-- sleuth/sleuthlaw25.EstimateRefines -/
def W3 (s_3 : TStory) (weights_3 : TA28) (K : Bool → Prop) : Prop :=
  W12  fun r75146 => Cond (!r75146) (K false) (W13 s_3 weights_3 fun r75148 => W14 r75148 1 fun r75150 => Cond (decide (¬ r75150.2 = 0)) (K false) (LoopW (fun (s : Int) N82934 => L3_1 r75148 K r75150 s N82934) 2))

def S3 : FSpec := fun args K => ∃ (s_3 : TStory), ∃ (weights_3 : TA28), ∃ (Kr : Bool → Prop), args = [.agg (List.map RC.d (TStory.enc s_3)), .agg (List.map RC.d (TA28.enc weights_3))] ∧ W3 s_3 weights_3 Kr ∧ ∀ r, Kr r → K (.one (.d (.bool r))) []

theorem en3 : enters Try.prog 3 = true := by unfold enters; rw [Try.func3]; rfl
theorem cl3 (s_3 : TStory) (weights_3 : TA28) {Kr : Bool → Prop} (h : W3 s_3 weights_3 Kr) : S3 [.agg (List.map RC.d (TStory.enc s_3)), .agg (List.map RC.d (TA28.enc weights_3))] (fun rv rows => ∃ r, rv = (.one (.d (.bool r))) ∧ rows = [] ∧ Kr r) := ⟨s_3, weights_3, Kr, rfl, h, fun r hr => ⟨r, rfl, rfl, hr⟩⟩

theorem ok3 : COK Try.prog 3 S3 := by
  refine cok3 fun args K0 hS => ?_
  obtain ⟨s_3, weights_3, K, rfl, h, hK⟩ := hS
  refine ⟨by kernel_rfl, by simp, ?_⟩
  unfold W3 at h
  refine AW.sregL [(0, none), (1, none), (2, none)] (by kernel_rfl) ?_
  refine l_det (some 2) (.one (.ref 2 1 0 0), [(2, 1, .row true 27 7 [[.d (.sl (List.map TTree.enc s_3.trees)), .d (.int .i8 s_3.offsets.e0), .d (.int .i8 s_3.offsets.e1), .d (.int .i8 s_3.offsets.e2), .d (.int .i8 s_3.offsets.e3), .d (.sl (List.map TSync.enc s_3.syncs)), .d (.int .u8 s_3.wrong)]])]) (by kernel_rfl) ?_
  refine l_det (some 3) (.one (.ref 3 1 0 0), [(3, 1, .row true 28 3 [[.d (.int .u8 weights_3.e0), .d (.int .u8 weights_3.e1), .d (.int .u8 weights_3.e2)]])]) (by kernel_rfl) ?_
  refine l_det (some 4) (.one (.d (.bool false)), []) (by kernel_rfl) ?_
  refine l_nil ?_
  refine AW.seq ?_
  refine AW.sregL [(0, none), (1, none)] (by kernel_rfl) ?_
  refine l_call ok12 en12 (some 15) [] [] [] [] (by kernel_rfl) ⟨by kernel_rfl, by kernel_rfl⟩ (by kernel_rfl) (by kernel_rfl) (by kernel_rfl) (cl12  h) ?_
  rintro hR _ _ ⟨r75146, rfl, rfl, h⟩
  refine ⟨false, (.one (.d (.bool r75146)), []), (fun hz => (by cases hz)), (ret_R hR (by kernel_rfl)), ?_⟩
  refine l_det (some 16) (.one (.d (.bool (!r75146))), []) (by kernel_rfl) ?_
  refine l_nil ?_
  refine AW.cond' (by kernel_rfl) h (fun h => ?_) (fun h => ?_)
  · refine AW.sregL [(0, none)] (by kernel_rfl) ?_
    refine l_det (some 4) (.one (.d (.bool false)), []) (by kernel_rfl) ?_
    refine l_nil ?_
    refine AW.ret ?_
    refine q_ret ?_
    exact q_end [.one (.d (.bool false))] [false] [.one (.d (.bool false))] [] [] (by kernel_rfl) ⟨by kernel_rfl, by kernel_rfl⟩ (by kernel_rfl) (by kernel_rfl) (by kernel_rfl) (by kernel_rfl) (Eq.mp (by kernel_rfl) (hK false h)) (.inr rfl)
  · refine AW.skip ?_
    refine q_fall ?_
    refine AW.sregL [(0, none), (1, none), (2, none), (3, none)] (by kernel_rfl) ?_
    refine l_det (some 17) (.agg [.d (.sl (List.map TTree.enc s_3.trees)), .d (.int .i8 s_3.offsets.e0), .d (.int .i8 s_3.offsets.e1), .d (.int .i8 s_3.offsets.e2), .d (.int .i8 s_3.offsets.e3), .d (.sl (List.map TSync.enc s_3.syncs)), .d (.int .u8 s_3.wrong)], []) (by kernel_rfl) ?_
    refine l_det (some 18) (.agg [.d (.int .u8 weights_3.e0), .d (.int .u8 weights_3.e1), .d (.int .u8 weights_3.e2)], []) (by kernel_rfl) ?_
    refine l_call ok13 en13 (some 19) [.agg [.d (.sl (List.map TTree.enc s_3.trees)), .d (.int .i8 s_3.offsets.e0), .d (.int .i8 s_3.offsets.e1), .d (.int .i8 s_3.offsets.e2), .d (.int .i8 s_3.offsets.e3), .d (.sl (List.map TSync.enc s_3.syncs)), .d (.int .u8 s_3.wrong)], .agg [.d (.int .u8 weights_3.e0), .d (.int .u8 weights_3.e1), .d (.int .u8 weights_3.e2)]] [false, false] [.agg (List.map RC.d [.sl (List.map TTree.enc s_3.trees), .int .i8 s_3.offsets.e0, .int .i8 s_3.offsets.e1, .int .i8 s_3.offsets.e2, .int .i8 s_3.offsets.e3, .sl (List.map TSync.enc s_3.syncs), .int .u8 s_3.wrong]), .agg (List.map RC.d [.int .u8 weights_3.e0, .int .u8 weights_3.e1, .int .u8 weights_3.e2])] [] (by kernel_rfl) ⟨by kernel_rfl, by kernel_rfl⟩ (by kernel_rfl) (by kernel_rfl) (by kernel_rfl) (cl13 s_3 weights_3 h) ?_
    rintro hR _ _ ⟨r75148, rfl, rfl, h⟩
    refine ⟨false, (.one (.view 19 1 0 ((List.map TTrace.enc r75148).length)), [(19, 1, .row true 53 3 (dmm (List.map TTrace.enc r75148)))]), (fun hz => (by cases hz)), (ret_R hR (by kernel_rfl)), ?_⟩
    refine l_det (some 5) (.one (.view 19 1 0 ((List.map TTrace.enc r75148).length)), []) (by kernel_rfl) ?_
    refine l_nil ?_
    refine AW.sregL [(0, none), (1, none), (2, none), (3, none), (4, none), (5, none), (6, none)] (by kernel_rfl) ?_
    refine l_det (some 21) (.one (.view 19 1 0 ((List.map TTrace.enc r75148).length)), []) (by kernel_rfl) ?_
    refine l_call ok14 en14 (some 22) [.one (.view 19 1 0 ((List.map TTrace.enc r75148).length)), .one (.d (.int .i64 1))] [false, false] [.one (.d (.sl (List.map TTrace.enc r75148))), .one (.d (.int .i64 1))] [19] (by kernel_rfl) (ps_plain (pv_one (pf_view (E := 53) (sz := 3) (l := true) (List.map TTrace.enc r75148) (by kernel_rfl) (by kernel_rfl) rfl)) (ps_plain (pv_one pf_d) ps_nil)) (by kernel_rfl) (by kernel_rfl) (by kernel_rfl) (cl14 r75148 1 h) ?_
    rintro hR _ _ ⟨r75150, rfl, rfl, h⟩
    refine ⟨false, (.tup [.one (.view 22 1 0 ((List.map TLine.enc r75150.1).length)), .one (.d (.int .i64 r75150.2))], [(19, 1, .row false 53 3 (dmm (List.map TTrace.enc r75148))), (22, 1, .row true 41 7 (dmm (List.map TLine.enc r75150.1)))]), (fun hz => (by cases hz)), (ret_R hR (by kernel_rfl)), ?_⟩
    refine l_det (some 20) (.tup [.one (.view 22 1 0 ((List.map TLine.enc r75150.1).length)), .one (.d (.int .i64 r75150.2))], []) (by kernel_rfl) ?_
    refine l_det (some 23) (.one (.view 22 1 0 ((List.map TLine.enc r75150.1).length)), []) (by kernel_rfl) ?_
    refine l_det (some 24) (.one (.d (.int .i64 r75150.2)), []) (by kernel_rfl) ?_
    refine l_det (some 6) (.one (.view 22 1 0 ((List.map TLine.enc r75150.1).length)), []) (by kernel_rfl) ?_
    refine l_det (some 7) (.one (.d (.int .i64 r75150.2)), []) (by kernel_rfl) ?_
    refine l_nil ?_
    refine AW.seq ?_
    refine AW.sregL [(0, none), (1, none)] (by kernel_rfl) ?_
    refine l_det (some 25) (.one (.d (.int .i64 r75150.2)), []) (by kernel_rfl) ?_
    refine l_det (some 26) (.one (.d (.bool (decide (¬ r75150.2 = 0)))), []) (by kernel_rfl) ?_
    refine l_nil ?_
    refine AW.cond' (by kernel_rfl) h (fun h => ?_) (fun h => ?_)
    · refine AW.sregL [(0, none)] (by kernel_rfl) ?_
      refine l_det (some 4) (.one (.d (.bool false)), []) (by kernel_rfl) ?_
      refine l_nil ?_
      refine AW.ret ?_
      refine q_ret ?_
      exact q_end [.one (.d (.bool false))] [false] [.one (.d (.bool false))] [] [] (by kernel_rfl) ⟨by kernel_rfl, by kernel_rfl⟩ (by kernel_rfl) (by kernel_rfl) (by kernel_rfl) (by kernel_rfl) (Eq.mp (by kernel_rfl) (hK false h)) (.inr rfl)
    · refine AW.skip ?_
      refine q_fall ?_
      refine AW.seq ?_
      refine AW.sregL [(0, none)] (by kernel_rfl) ?_
      refine l_det (some 8) (.one (.d (.int .i64 2)), []) (by kernel_rfl) ?_
      refine l_nil ?_
      refine AW.blk ?_
      refine AW.loopL (S := Int) (fun s => (fun (v81377 : Int) => [(5, .one (.view 200001 0 0 ((List.map TTrace.enc r75148).length))), (6, .one (.view 200002 0 0 ((List.map TLine.enc r75150.1).length))), (8, .one (.d (.int .i64 v81377)))]) s) (fun s => (fun (v81377 : Int) => [(200001, .pure false 53 3 (List.map TTrace.enc r75148)), (200002, .pure true 41 7 (List.map TLine.enc r75150.1))]) s) (fun (s : Int) N82934 => L3_1 r75148 K r75150 s N82934) (N := fun s => LoopW (fun (s : Int) N82934 => L3_1 r75148 K r75150 s N82934) s) (Lab.mk 2 [(200001, some 19), (200002, some 22)] (by kernel_rfl) (by kernel_rfl) (by kernel_rfl) (by kernel_rfl) h) (fun _ h => h) ?_
      rintro v81377 N82934 h
      have h : L3_1 r75148 K r75150 v81377 N82934 := h
      unfold L3_1 at h
      refine AW.seq ?_
      refine AW.sregL [(0, none), (1, none)] (by kernel_rfl) ?_
      refine l_det (some 27) (.one (.d (.int .i64 v81377)), []) (by kernel_rfl) ?_
      refine l_det (some 28) (.one (.d (.bool (decide (v81377 ≤ 3)))), []) (by kernel_rfl) ?_
      refine l_nil ?_
      refine AW.cond' (by kernel_rfl) h (fun h => ?_) (fun h => ?_)
      · refine AW.skip ?_
        refine q_fall ?_
        refine AW.seq ?_
        refine AW.blk ?_
        refine AW.sregL [(0, none), (1, none), (2, none), (3, none), (4, none), (5, none), (6, none), (7, none)] (by kernel_rfl) ?_
        refine l_det (some 32) (.one (.view 200001 0 0 ((List.map TTrace.enc r75148).length)), []) (by kernel_rfl) ?_
        refine l_det (some 33) (.one (.d (.int .i64 v81377)), []) (by kernel_rfl) ?_
        refine l_call ok14 en14 (some 34) [.one (.view 200001 0 0 ((List.map TTrace.enc r75148).length)), .one (.d (.int .i64 v81377))] [false, false] [.one (.d (.sl (List.map TTrace.enc r75148))), .one (.d (.int .i64 v81377))] [200001] (by kernel_rfl) (ps_plain (pv_one (pf_view (E := 53) (sz := 3) (l := false) (List.map TTrace.enc r75148) (by kernel_rfl) (by kernel_rfl) rfl)) (ps_plain (pv_one pf_d) ps_nil)) (by kernel_rfl) (by kernel_rfl) (by kernel_rfl) (cl14 r75148 v81377 h) ?_
        rintro hR _ _ ⟨r83714, rfl, rfl, h⟩
        refine ⟨false, (.tup [.one (.view 34 1 0 ((List.map TLine.enc r83714.1).length)), .one (.d (.int .i64 r83714.2))], [(200001, 0, .row false 53 3 (dmm (List.map TTrace.enc r75148))), (34, 1, .row true 41 7 (dmm (List.map TLine.enc r83714.1)))]), (fun hz => (by cases hz)), (ret_R hR (by kernel_rfl)), ?_⟩
        refine l_det (some 31) (.tup [.one (.view 34 1 0 ((List.map TLine.enc r83714.1).length)), .one (.d (.int .i64 r83714.2))], []) (by kernel_rfl) ?_
        refine l_det (some 35) (.one (.view 34 1 0 ((List.map TLine.enc r83714.1).length)), []) (by kernel_rfl) ?_
        refine l_det (some 36) (.one (.d (.int .i64 r83714.2)), []) (by kernel_rfl) ?_
        refine l_det (some 9) (.one (.view 34 1 0 ((List.map TLine.enc r83714.1).length)), []) (by kernel_rfl) ?_
        refine l_det (some 10) (.one (.d (.int .i64 r83714.2)), []) (by kernel_rfl) ?_
        refine l_nil ?_
        refine AW.seq ?_
        refine AW.sregL [(0, none), (1, none)] (by kernel_rfl) ?_
        refine l_det (some 37) (.one (.d (.int .i64 r83714.2)), []) (by kernel_rfl) ?_
        refine l_det (some 38) (.one (.d (.bool (decide (¬ r83714.2 = 0)))), []) (by kernel_rfl) ?_
        refine l_nil ?_
        refine AW.cond' (by kernel_rfl) h (fun h => ?_) (fun h => ?_)
        · refine AW.sregL [(0, none)] (by kernel_rfl) ?_
          refine l_det (some 4) (.one (.d (.bool false)), []) (by kernel_rfl) ?_
          refine l_nil ?_
          refine AW.ret ?_
          refine q_ret ?_
          refine q_bret ?_
          refine q_ret ?_
          refine q_ret ?_
          refine q_bret ?_
          refine q_ret ?_
          exact q_end [.one (.d (.bool false))] [false] [.one (.d (.bool false))] [] [] (by kernel_rfl) ⟨by kernel_rfl, by kernel_rfl⟩ (by kernel_rfl) (by kernel_rfl) (by kernel_rfl) (by kernel_rfl) (Eq.mp (by kernel_rfl) (hK false h)) (.inr rfl)
        · refine AW.skip ?_
          refine q_fall ?_
          refine AW.sregL [(0, none)] (by kernel_rfl) ?_
          refine l_det (some 11) (.one (.d (.int .i64 0)), []) (by kernel_rfl) ?_
          refine l_nil ?_
          refine AW.blk ?_
          refine AW.loopL (S := Int) (fun s => (fun (v83973 : Int) => [(5, .one (.view 200001 0 0 ((List.map TTrace.enc r75148).length))), (6, .one (.view 200002 0 0 ((List.map TLine.enc r75150.1).length))), (8, .one (.d (.int .i64 v81377))), (9, .one (.view 200003 0 0 ((List.map TLine.enc r83714.1).length))), (11, .one (.d (.int .i64 v83973)))]) s) (fun s => (fun (v83973 : Int) => [(200001, .pure false 53 3 (List.map TTrace.enc r75148)), (200002, .pure true 41 7 (List.map TLine.enc r75150.1)), (200003, .pure true 41 7 (List.map TLine.enc r83714.1))]) s) (fun (s : Int) N84232 => L3_2 r75150 r83714 K N82934 v81377 s N84232) (N := fun s => LoopW (fun (s : Int) N84232 => L3_2 r75150 r83714 K N82934 v81377 s N84232) s) (Lab.mk 0 [(200001, some 200001), (200002, some 200002), (200003, some 34)] (by kernel_rfl) (by kernel_rfl) (by kernel_rfl) (by kernel_rfl) h) (fun _ h => h) ?_
          rintro v83973 N84232 h
          have h : L3_2 r75150 r83714 K N82934 v81377 v83973 N84232 := h
          unfold L3_2 at h
          refine AW.seq ?_
          refine AW.sregL [(0, none), (1, none), (2, none), (3, none)] (by kernel_rfl) ?_
          refine l_det (some 39) (.one (.d (.int .i64 v83973)), []) (by kernel_rfl) ?_
          refine l_det (some 40) (.one (.view 200002 0 0 ((List.map TLine.enc r75150.1).length)), []) (by kernel_rfl) ?_
          refine l_spec (some 41) (.lens (.t 40)) (.one (.d (.int .i64 (r75150.1.length : Int))), []) (by kernel_rfl) (detA_none (d_lens_v (enc := TLine.enc) (o := 200002) (g := 0) r75150.1 (by kernel_rfl))) ?_
          refine l_det (some 42) (.one (.d (.bool (decide (v83973 < (r75150.1.length : Int))))), []) (by kernel_rfl) ?_
          refine l_nil ?_
          refine AW.cond' (by kernel_rfl) h (fun h => ?_) (fun h => ?_)
          · refine AW.skip ?_
            refine q_fall ?_
            refine AW.seq ?_
            refine AW.blk ?_
            refine AW.sregL [(0, none)] (by kernel_rfl) ?_
            refine l_det (some 12) (.one (.ref 12 1 0 0), [(12, 1, .row true 37 4 [[.d (.int .i64 0), .d (.int .i64 0), .d (.int .i64 0), .d (.int .i64 0)]])]) (by kernel_rfl) ?_
            refine l_nil ?_
            refine AW.seq ?_
            refine AW.sregL [(0, none)] (by kernel_rfl) ?_
            refine l_det (some 13) (.one (.d (.int .i64 0)), []) (by kernel_rfl) ?_
            refine l_nil ?_
            refine AW.blk ?_
            refine AW.loopL (S := (Int × Int × Int × Int × Int)) (fun s => (fun (v84444 : Int) (v84445 : Int) (v84446 : Int) (v84447 : Int) (v84448 : Int) => [(5, .one (.view 200001 0 0 ((List.map TTrace.enc r75148).length))), (6, .one (.view 200002 0 0 ((List.map TLine.enc r75150.1).length))), (8, .one (.d (.int .i64 v81377))), (9, .one (.view 200003 0 0 ((List.map TLine.enc r83714.1).length))), (11, .one (.d (.int .i64 v83973))), (12, .one (.ref 200004 0 0 0)), (13, .one (.d (.int .i64 v84448)))]) s.1 s.2.1 s.2.2.1 s.2.2.2.1 s.2.2.2.2) (fun s => (fun (v84444 : Int) (v84445 : Int) (v84446 : Int) (v84447 : Int) (v84448 : Int) => [(200001, .pure false 53 3 (List.map TTrace.enc r75148)), (200002, .pure true 41 7 (List.map TLine.enc r75150.1)), (200003, .pure true 41 7 (List.map TLine.enc r83714.1)), (200004, .expl true 37 4 [[.d (.int .i64 v84444), .d (.int .i64 v84445), .d (.int .i64 v84446), .d (.int .i64 v84447)]])]) s.1 s.2.1 s.2.2.1 s.2.2.2.1 s.2.2.2.2) (fun (s : (Int × Int × Int × Int × Int)) N84468 => L3_3 r83714 r75150 v83973 K N84232 s.1 s.2.1 s.2.2.1 s.2.2.2.1 s.2.2.2.2 N84468) (N := fun s => LoopW (fun (s : (Int × Int × Int × Int × Int)) N84468 => L3_3 r83714 r75150 v83973 K N84232 s.1 s.2.1 s.2.2.1 s.2.2.2.1 s.2.2.2.2 N84468) s) (Lab.mk (0, 0, 0, 0, 0) [(200001, some 200001), (200002, some 200002), (200003, some 200003), (200004, some 12)] (by kernel_rfl) (by kernel_rfl) (by kernel_rfl) (by kernel_rfl) h) (fun _ h => h) ?_
            rintro ⟨v84444, v84445, v84446, v84447, v84448⟩ N84468 h
            have h : L3_3 r83714 r75150 v83973 K N84232 v84444 v84445 v84446 v84447 v84448 N84468 := h
            unfold L3_3 at h
            refine AW.seq ?_
            refine AW.sregL [(0, none), (1, none), (2, none), (3, none)] (by kernel_rfl) ?_
            refine l_det (some 45) (.one (.d (.int .i64 v84448)), []) (by kernel_rfl) ?_
            refine l_det (some 46) (.one (.view 200003 0 0 ((List.map TLine.enc r83714.1).length)), []) (by kernel_rfl) ?_
            refine l_spec (some 47) (.lens (.t 46)) (.one (.d (.int .i64 (r83714.1.length : Int))), []) (by kernel_rfl) (detA_none (d_lens_v (enc := TLine.enc) (o := 200003) (g := 0) r83714.1 (by kernel_rfl))) ?_
            refine l_det (some 48) (.one (.d (.bool (decide (v84448 < (r83714.1.length : Int))))), []) (by kernel_rfl) ?_
            refine l_nil ?_
            refine AW.cond' (by kernel_rfl) h (fun h => ?_) (fun h => ?_)
            · refine AW.skip ?_
              refine q_fall ?_
              refine AW.seqL (S := (Int × Int × Int × Int)) (fun s => (fun (v84479 : Int) (v84480 : Int) (v84481 : Int) (v84482 : Int) => [(5, .one (.view 200001 0 0 ((List.map TTrace.enc r75148).length))), (6, .one (.view 200002 0 0 ((List.map TLine.enc r75150.1).length))), (8, .one (.d (.int .i64 v81377))), (9, .one (.view 200003 0 0 ((List.map TLine.enc r83714.1).length))), (11, .one (.d (.int .i64 v83973))), (12, .one (.ref 200004 0 0 0)), (13, .one (.d (.int .i64 v84448)))]) s.1 s.2.1 s.2.2.1 s.2.2.2) (fun s => (fun (v84479 : Int) (v84480 : Int) (v84481 : Int) (v84482 : Int) => [(200001, .pure false 53 3 (List.map TTrace.enc r75148)), (200002, .pure true 41 7 (List.map TLine.enc r75150.1)), (200003, .pure true 41 7 (List.map TLine.enc r83714.1)), (200004, .expl true 37 4 [[.d (.int .i64 v84479), .d (.int .i64 v84480), .d (.int .i64 v84481), .d (.int .i64 v84482)]])]) s.1 s.2.1 s.2.2.1 s.2.2.2) (fun s : (Int × Int × Int × Int) => J3_4 N84468 v84448 s.1 s.2.1 s.2.2.1 s.2.2.2) ?_ ?_
              · refine AW.blk ?_
                refine AW.sregdL follows_mixed [[], [], [0, 1], [0, 1, 2], [0, 1, 2, 3], [0, 1, 2, 3, 4], [], [], [6, 7], [6, 7, 8], [6, 7, 8, 9], [6, 7, 8, 9, 10], [0, 1, 2, 3, 4, 5, 6, 7, 8, 9, 10, 11]] [(0, none), (1, none), (2, none), (3, none), (4, none), (5, none), (6, none), (7, none), (8, none), (9, none), (10, none), (11, none), (12, none)] (by kernel_rfl) ?_
                refine l_det (some 51) (.one (.view 200003 0 0 ((List.map TLine.enc r83714.1).length)), []) (by kernel_rfl) ?_
                refine l_det (some 52) (.one (.d (.int .i64 v84448)), []) (by kernel_rfl) ?_
                obtain ⟨h11976, x84485, h11977, h⟩ := h
                refine l_spec (some 53) (.iad 7 (.t 51) (.t 52)) (.one (.ref 200003 0 v84448.toNat 0), []) (by kernel_rfl) (detA_none (d_iad_v (enc := TLine.enc) (k := .i64) (E := 41) (l := true) (ys := dmm (List.map TLine.enc r83714.1)) r83714.1 x84485 (by kernel_rfl) (by kernel_rfl) (by kernel_rfl) (by kernel_rfl) h11976 h11977)) ?_
                refine l_det (some 54) (.one (.ref 200003 0 v84448.toNat 0), []) (by kernel_rfl) ?_
                refine l_det (some 55) (.one (.ref 200003 0 v84448.toNat 0), []) (by kernel_rfl) ?_
                refine l_spec (some 56) (.ld false 1 (.t 55)) (.one (.d (.str x84485.group.service)), []) (by kernel_rfl) (detA_none (d_ld_row (enc := TLine.enc) (o := 200003) (g := 0) (i := v84448.toNat) (off := 0) (E := 41) (sz := 7) (l := true) r83714.1 x84485 (by kernel_rfl) (by kernel_rfl) (by kernel_rfl) h11977 (by kernel_rfl))) ?_
                refine l_det (some 57) (.one (.view 200002 0 0 ((List.map TLine.enc r75150.1).length)), []) (by kernel_rfl) ?_
                refine l_det (some 58) (.one (.d (.int .i64 v83973)), []) (by kernel_rfl) ?_
                obtain ⟨h11978, x84486, h11979, h⟩ := h
                refine l_spec (some 59) (.iad 7 (.t 57) (.t 58)) (.one (.ref 200002 0 v83973.toNat 0), []) (by kernel_rfl) (detA_none (d_iad_v (enc := TLine.enc) (k := .i64) (E := 41) (l := true) (ys := dmm (List.map TLine.enc r75150.1)) r75150.1 x84486 (by kernel_rfl) (by kernel_rfl) (by kernel_rfl) (by kernel_rfl) h11978 h11979)) ?_
                refine l_det (some 60) (.one (.ref 200002 0 v83973.toNat 0), []) (by kernel_rfl) ?_
                refine l_det (some 61) (.one (.ref 200002 0 v83973.toNat 0), []) (by kernel_rfl) ?_
                refine l_spec (some 62) (.ld false 1 (.t 61)) (.one (.d (.str x84486.group.service)), []) (by kernel_rfl) (detA_none (d_ld_row (enc := TLine.enc) (o := 200002) (g := 0) (i := v83973.toNat) (off := 0) (E := 41) (sz := 7) (l := true) r75150.1 x84486 (by kernel_rfl) (by kernel_rfl) (by kernel_rfl) h11979 (by kernel_rfl))) ?_
                refine l_det (some 63) (.one (.d (.bool (decide (x84485.group.service = x84486.group.service)))), []) (by kernel_rfl) ?_
                refine l_nil ?_
                refine AW.cond' (by kernel_rfl) h (fun h => ?_) (fun h => ?_)
                · refine AW.seq ?_
                  refine AW.sregdL follows_mixed [[], [], [0, 1], [0, 1, 2], [0, 1, 2, 3], [0, 1, 2, 3, 4], [], [], [6, 7], [6, 7, 8], [6, 7, 8, 9], [6, 7, 8, 9, 10], [0, 1, 2, 3, 4, 5, 6, 7, 8, 9, 10, 11]] [(0, none), (1, none), (2, none), (3, none), (4, none), (5, none), (6, none), (7, none), (8, none), (9, none), (10, none), (11, none), (12, none)] (by kernel_rfl) ?_
                  refine l_det (some 64) (.one (.view 200003 0 0 ((List.map TLine.enc r83714.1).length)), []) (by kernel_rfl) ?_
                  refine l_det (some 65) (.one (.d (.int .i64 v84448)), []) (by kernel_rfl) ?_
                  refine l_spec (some 66) (.iad 7 (.t 64) (.t 65)) (.one (.ref 200003 0 v84448.toNat 0), []) (by kernel_rfl) (detA_none (d_iad_v (enc := TLine.enc) (k := .i64) (E := 41) (l := true) (ys := dmm (List.map TLine.enc r83714.1)) r83714.1 x84485 (by kernel_rfl) (by kernel_rfl) (by kernel_rfl) (by kernel_rfl) h11976 h11977)) ?_
                  refine l_det (some 67) (.one (.ref 200003 0 v84448.toNat 3), []) (by kernel_rfl) ?_
                  refine l_det (some 68) (.one (.ref 200003 0 v84448.toNat 6), []) (by kernel_rfl) ?_
                  refine l_spec (some 69) (.ld false 1 (.t 68)) (.one (.d (.int .i64 x84485.total.traces)), []) (by kernel_rfl) (detA_none (d_ld_row (enc := TLine.enc) (o := 200003) (g := 0) (i := v84448.toNat) (off := 6) (E := 41) (sz := 7) (l := true) r83714.1 x84485 (by kernel_rfl) (by kernel_rfl) (by kernel_rfl) h11977 (by kernel_rfl))) ?_
                  refine l_det (some 70) (.one (.view 200002 0 0 ((List.map TLine.enc r75150.1).length)), []) (by kernel_rfl) ?_
                  refine l_det (some 71) (.one (.d (.int .i64 v83973)), []) (by kernel_rfl) ?_
                  refine l_spec (some 72) (.iad 7 (.t 70) (.t 71)) (.one (.ref 200002 0 v83973.toNat 0), []) (by kernel_rfl) (detA_none (d_iad_v (enc := TLine.enc) (k := .i64) (E := 41) (l := true) (ys := dmm (List.map TLine.enc r75150.1)) r75150.1 x84486 (by kernel_rfl) (by kernel_rfl) (by kernel_rfl) (by kernel_rfl) h11978 h11979)) ?_
                  refine l_det (some 73) (.one (.ref 200002 0 v83973.toNat 3), []) (by kernel_rfl) ?_
                  refine l_det (some 74) (.one (.ref 200002 0 v83973.toNat 6), []) (by kernel_rfl) ?_
                  refine l_spec (some 75) (.ld false 1 (.t 74)) (.one (.d (.int .i64 x84486.total.traces)), []) (by kernel_rfl) (detA_none (d_ld_row (enc := TLine.enc) (o := 200002) (g := 0) (i := v83973.toNat) (off := 6) (E := 41) (sz := 7) (l := true) r75150.1 x84486 (by kernel_rfl) (by kernel_rfl) (by kernel_rfl) h11979 (by kernel_rfl))) ?_
                  refine l_det (some 76) (.one (.d (.bool (decide (x84485.total.traces > x84486.total.traces)))), []) (by kernel_rfl) ?_
                  refine l_nil ?_
                  refine AW.cond' (by kernel_rfl) h (fun h => ?_) (fun h => ?_)
                  · refine AW.sregL [(0, none)] (by kernel_rfl) ?_
                    refine l_det (some 4) (.one (.d (.bool false)), []) (by kernel_rfl) ?_
                    refine l_nil ?_
                    refine AW.ret ?_
                    refine q_ret ?_
                    refine q_bret ?_
                    refine q_ret ?_
                    refine q_ret ?_
                    refine q_bret ?_
                    refine q_ret ?_
                    refine q_bret ?_
                    refine q_ret ?_
                    refine q_ret ?_
                    refine q_bret ?_
                    refine q_bret ?_
                    refine q_ret ?_
                    refine q_ret ?_
                    refine q_bret ?_
                    refine q_ret ?_
                    exact q_end [.one (.d (.bool false))] [false] [.one (.d (.bool false))] [] [] (by kernel_rfl) ⟨by kernel_rfl, by kernel_rfl⟩ (by kernel_rfl) (by kernel_rfl) (by kernel_rfl) (by kernel_rfl) (Eq.mp (by kernel_rfl) (hK false h)) (.inr rfl)
                  · refine AW.skip ?_
                    refine q_fall ?_
                    refine AW.regdL follows_mixed [[], [], [], [1, 2], [1, 2, 3], [1, 2, 3, 4], [0, 1, 2, 3, 4, 5], [0, 1, 2, 3, 4, 5, 6]] [(0, none), (1, none), (2, none), (3, none), (4, none), (5, none), (6, none), (7, none)] (by kernel_rfl) ?_
                    refine l_det (some 77) (.agg [.d (.int .i64 v84444), .d (.int .i64 v84445), .d (.int .i64 v84446), .d (.int .i64 v84447)], []) (by kernel_rfl) ?_
                    refine l_det (some 78) (.one (.view 200003 0 0 ((List.map TLine.enc r83714.1).length)), []) (by kernel_rfl) ?_
                    refine l_det (some 79) (.one (.d (.int .i64 v84448)), []) (by kernel_rfl) ?_
                    refine l_spec (some 80) (.iad 7 (.t 78) (.t 79)) (.one (.ref 200003 0 v84448.toNat 0), []) (by kernel_rfl) (detA_none (d_iad_v (enc := TLine.enc) (k := .i64) (E := 41) (l := true) (ys := dmm (List.map TLine.enc r83714.1)) r83714.1 x84485 (by kernel_rfl) (by kernel_rfl) (by kernel_rfl) (by kernel_rfl) h11976 h11977)) ?_
                    refine l_det (some 81) (.one (.ref 200003 0 v84448.toNat 3), []) (by kernel_rfl) ?_
                    refine l_spec (some 82) (.ld true 4 (.t 81)) (.agg [.d (.int .i64 x84485.total.spans), .d (.int .i64 x84485.total.errors), .d (.int .i64 x84485.total.duration), .d (.int .i64 x84485.total.traces)], []) (by kernel_rfl) (detA_none (d_ld_row (enc := TLine.enc) (o := 200003) (g := 0) (i := v84448.toNat) (off := 3) (E := 41) (sz := 7) (l := true) r83714.1 x84485 (by kernel_rfl) (by kernel_rfl) (by kernel_rfl) h11977 (by kernel_rfl))) ?_
                    refine l_call ok15 en15 (some 83) [.agg [.d (.int .i64 v84444), .d (.int .i64 v84445), .d (.int .i64 v84446), .d (.int .i64 v84447)], .agg [.d (.int .i64 x84485.total.spans), .d (.int .i64 x84485.total.errors), .d (.int .i64 x84485.total.duration), .d (.int .i64 x84485.total.traces)]] [false, false] [.agg (List.map RC.d [.int .i64 v84444, .int .i64 v84445, .int .i64 v84446, .int .i64 v84447]), .agg (List.map RC.d [.int .i64 x84485.total.spans, .int .i64 x84485.total.errors, .int .i64 x84485.total.duration, .int .i64 x84485.total.traces])] [] (by kernel_rfl) ⟨by kernel_rfl, by kernel_rfl⟩ (by kernel_rfl) (by kernel_rfl) (by kernel_rfl) (cl15 (TTotal.mk v84444 v84445 v84446 v84447) x84485.total h) ?_
                    rintro hR _ _ ⟨r84487, rfl, rfl, h⟩
                    refine ⟨false, (.agg [.d (.int .i64 r84487.spans), .d (.int .i64 r84487.errors), .d (.int .i64 r84487.duration), .d (.int .i64 r84487.traces)], []), (fun hz => (by cases hz)), (ret_R hR (by kernel_rfl)), ?_⟩
                    refine l_det none (.tup [], [(200004, 0, .row true 37 4 [[.d (.int .i64 r84487.spans), .d (.int .i64 r84487.errors), .d (.int .i64 r84487.duration), .d (.int .i64 r84487.traces)]])]) (by kernel_rfl) ?_
                    refine l_nil ?_
                    refine q_bfall ?_
                    refine q_fall ?_
                    exact Lab.mk (r84487.spans, r84487.errors, r84487.duration, r84487.traces) [(200001, some 200001), (200002, some 200002), (200003, some 200003), (200004, some 200004)] (by kernel_rfl) (by kernel_rfl) (by kernel_rfl) (by kernel_rfl) h
                · refine AW.skip ?_
                  refine q_bfall ?_
                  refine q_fall ?_
                  exact Lab.mk (v84444, v84445, v84446, v84447) [(200001, some 200001), (200002, some 200002), (200003, some 200003), (200004, some 200004)] (by kernel_rfl) (by kernel_rfl) (by kernel_rfl) (by kernel_rfl) h
              · rintro ⟨v84479, v84480, v84481, v84482⟩ h
                have h : J3_4 N84468 v84448 v84479 v84480 v84481 v84482 := h
                unfold J3_4 at h
                refine AW.regL [(0, none), (1, none), (2, none)] (by kernel_rfl) ?_
                refine l_det (some 49) (.one (.d (.int .i64 v84448)), []) (by kernel_rfl) ?_
                refine l_det (some 50) (.one (.d (.int .i64 (w64 (v84448 + 1)))), []) (by kernel_rfl) ?_
                refine l_det (some 13) (.one (.d (.int .i64 (w64 (v84448 + 1)))), []) (by kernel_rfl) ?_
                refine l_nil ?_
                refine q_fall ?_
                exact Lab.mk (v84479, v84480, v84481, v84482, (w64 (v84448 + 1))) [(200001, some 200001), (200002, some 200002), (200003, some 200003), (200004, some 200004)] (by kernel_rfl) (by kernel_rfl) (by kernel_rfl) (by kernel_rfl) h
            · refine AW.exit ?_
              refine q_exit ?_
              refine q_exit ?_
              refine q_bhere ?_
              refine q_fall ?_
              refine AW.sregL [(0, none), (1, none), (2, none), (3, none), (4, none), (5, none), (6, none)] (by kernel_rfl) ?_
              refine l_det (some 84) (.one (.view 200002 0 0 ((List.map TLine.enc r75150.1).length)), []) (by kernel_rfl) ?_
              refine l_det (some 85) (.one (.d (.int .i64 v83973)), []) (by kernel_rfl) ?_
              obtain ⟨h11983, x84489, h11984, h⟩ := h
              refine l_spec (some 86) (.iad 7 (.t 84) (.t 85)) (.one (.ref 200002 0 v83973.toNat 0), []) (by kernel_rfl) (detA_none (d_iad_v (enc := TLine.enc) (k := .i64) (E := 41) (l := true) (ys := dmm (List.map TLine.enc r75150.1)) r75150.1 x84489 (by kernel_rfl) (by kernel_rfl) (by kernel_rfl) (by kernel_rfl) h11983 h11984)) ?_
              refine l_det (some 87) (.one (.ref 200002 0 v83973.toNat 3), []) (by kernel_rfl) ?_
              refine l_spec (some 88) (.ld true 4 (.t 87)) (.agg [.d (.int .i64 x84489.total.spans), .d (.int .i64 x84489.total.errors), .d (.int .i64 x84489.total.duration), .d (.int .i64 x84489.total.traces)], []) (by kernel_rfl) (detA_none (d_ld_row (enc := TLine.enc) (o := 200002) (g := 0) (i := v83973.toNat) (off := 3) (E := 41) (sz := 7) (l := true) r75150.1 x84489 (by kernel_rfl) (by kernel_rfl) (by kernel_rfl) h11984 (by kernel_rfl))) ?_
              refine l_det (some 14) (.one (.ref 14 1 0 0), [(14, 1, .row true 37 4 [[.d (.int .i64 0), .d (.int .i64 0), .d (.int .i64 0), .d (.int .i64 0)]])]) (by kernel_rfl) ?_
              refine l_det none (.tup [], [(14, 1, .row true 37 4 [[.d (.int .i64 x84489.total.spans), .d (.int .i64 x84489.total.errors), .d (.int .i64 x84489.total.duration), .d (.int .i64 x84489.total.traces)]])]) (by kernel_rfl) ?_
              refine l_nil ?_
              refine AW.seqL (S := Bool) (fun s => (fun (v84490 : Bool) => [(5, .one (.view 200001 0 0 ((List.map TTrace.enc r75148).length))), (6, .one (.view 200002 0 0 ((List.map TLine.enc r75150.1).length))), (8, .one (.d (.int .i64 v81377))), (9, .one (.view 200003 0 0 ((List.map TLine.enc r83714.1).length))), (11, .one (.d (.int .i64 v83973))), (114, .one (.d (.bool v84490)))]) s) (fun s => (fun (v84490 : Bool) => [(200001, .pure false 53 3 (List.map TTrace.enc r75148)), (200002, .pure true 41 7 (List.map TLine.enc r75150.1)), (200003, .pure true 41 7 (List.map TLine.enc r83714.1))]) s) (fun s : Bool => J3_5 K N84232 v83973 s) ?_ ?_
              · refine AW.regL [(0, none), (1, none), (2, none), (3, none), (4, none), (5, none), (6, none), (7, none), (8, none), (9, none), (10, none), (11, none), (12, none), (13, none), (14, none), (15, none), (16, none), (17, none), (18, none), (19, none), (20, none), (21, none), (22, none), (23, none), (24, none), (25, none)] (by kernel_rfl) ?_
                refine l_det (some 89) (.one (.ref 200004 0 0 0), []) (by kernel_rfl) ?_
                refine l_det (some 90) (.one (.d (.int .i64 v84444)), []) (by kernel_rfl) ?_
                refine l_det (some 91) (.one (.ref 14 1 0 0), []) (by kernel_rfl) ?_
                refine l_det (some 92) (.one (.d (.int .i64 x84489.total.spans)), []) (by kernel_rfl) ?_
                refine l_det (some 93) (.one (.d (.bool (decide (¬ v84444 = x84489.total.spans)))), []) (by kernel_rfl) ?_
                refine l_det (some 94) (.one (.d (.bool (decide (¬ v84444 = x84489.total.spans)))), []) (by kernel_rfl) ?_
                refine l_split (s := 94) (by kernel_rfl) h (fun h => ?_) (fun h => ?_)
                · refine l_det (some 95) (.tup [], []) (by kernel_rfl) ?_
                  refine l_det (some 96) (.tup [], []) (by kernel_rfl) ?_
                  refine l_det (some 97) (.tup [], []) (by kernel_rfl) ?_
                  refine l_det (some 98) (.tup [], []) (by kernel_rfl) ?_
                  refine l_det (some 99) (.tup [], []) (by kernel_rfl) ?_
                  refine l_det (some 100) (.one (.d (.bool true)), []) (by kernel_rfl) ?_
                  refine l_det (some 101) (.one (.d (.bool true)), []) (by kernel_rfl) ?_
                  refine l_det (some 102) (.tup [], []) (by kernel_rfl) ?_
                  refine l_det (some 103) (.tup [], []) (by kernel_rfl) ?_
                  refine l_det (some 104) (.tup [], []) (by kernel_rfl) ?_
                  refine l_det (some 105) (.tup [], []) (by kernel_rfl) ?_
                  refine l_det (some 106) (.tup [], []) (by kernel_rfl) ?_
                  refine l_det (some 107) (.one (.d (.bool true)), []) (by kernel_rfl) ?_
                  refine l_det (some 108) (.one (.d (.bool true)), []) (by kernel_rfl) ?_
                  refine l_det (some 109) (.tup [], []) (by kernel_rfl) ?_
                  refine l_det (some 110) (.tup [], []) (by kernel_rfl) ?_
                  refine l_det (some 111) (.tup [], []) (by kernel_rfl) ?_
                  refine l_det (some 112) (.tup [], []) (by kernel_rfl) ?_
                  refine l_det (some 113) (.tup [], []) (by kernel_rfl) ?_
                  refine l_det (some 114) (.one (.d (.bool true)), []) (by kernel_rfl) ?_
                  refine l_nil ?_
                  refine q_fall ?_
                  exact Lab.mk true [(200001, some 200001), (200002, some 200002), (200003, some 200003)] (by kernel_rfl) (by kernel_rfl) (by kernel_rfl) (by kernel_rfl) h
                · refine l_det (some 95) (.one (.ref 200004 0 0 1), []) (by kernel_rfl) ?_
                  refine l_det (some 96) (.one (.d (.int .i64 v84445)), []) (by kernel_rfl) ?_
                  refine l_det (some 97) (.one (.ref 14 1 0 1), []) (by kernel_rfl) ?_
                  refine l_det (some 98) (.one (.d (.int .i64 x84489.total.errors)), []) (by kernel_rfl) ?_
                  refine l_det (some 99) (.one (.d (.bool (decide (¬ v84445 = x84489.total.errors)))), []) (by kernel_rfl) ?_
                  refine l_det (some 100) (.one (.d (.bool (decide (¬ v84445 = x84489.total.errors)))), []) (by kernel_rfl) ?_
                  refine l_det (some 101) (.one (.d (.bool (decide (¬ v84445 = x84489.total.errors)))), []) (by kernel_rfl) ?_
                  refine l_split (s := 101) (by kernel_rfl) h (fun h => ?_) (fun h => ?_)
                  · refine l_det (some 102) (.tup [], []) (by kernel_rfl) ?_
                    refine l_det (some 103) (.tup [], []) (by kernel_rfl) ?_
                    refine l_det (some 104) (.tup [], []) (by kernel_rfl) ?_
                    refine l_det (some 105) (.tup [], []) (by kernel_rfl) ?_
                    refine l_det (some 106) (.tup [], []) (by kernel_rfl) ?_
                    refine l_det (some 107) (.one (.d (.bool true)), []) (by kernel_rfl) ?_
                    refine l_det (some 108) (.one (.d (.bool true)), []) (by kernel_rfl) ?_
                    refine l_det (some 109) (.tup [], []) (by kernel_rfl) ?_
                    refine l_det (some 110) (.tup [], []) (by kernel_rfl) ?_
                    refine l_det (some 111) (.tup [], []) (by kernel_rfl) ?_
                    refine l_det (some 112) (.tup [], []) (by kernel_rfl) ?_
                    refine l_det (some 113) (.tup [], []) (by kernel_rfl) ?_
                    refine l_det (some 114) (.one (.d (.bool true)), []) (by kernel_rfl) ?_
                    refine l_nil ?_
                    refine q_fall ?_
                    exact Lab.mk true [(200001, some 200001), (200002, some 200002), (200003, some 200003)] (by kernel_rfl) (by kernel_rfl) (by kernel_rfl) (by kernel_rfl) h
                  · refine l_det (some 102) (.one (.ref 200004 0 0 2), []) (by kernel_rfl) ?_
                    refine l_det (some 103) (.one (.d (.int .i64 v84446)), []) (by kernel_rfl) ?_
                    refine l_det (some 104) (.one (.ref 14 1 0 2), []) (by kernel_rfl) ?_
                    refine l_det (some 105) (.one (.d (.int .i64 x84489.total.duration)), []) (by kernel_rfl) ?_
                    refine l_det (some 106) (.one (.d (.bool (decide (¬ v84446 = x84489.total.duration)))), []) (by kernel_rfl) ?_
                    refine l_det (some 107) (.one (.d (.bool (decide (¬ v84446 = x84489.total.duration)))), []) (by kernel_rfl) ?_
                    refine l_det (some 108) (.one (.d (.bool (decide (¬ v84446 = x84489.total.duration)))), []) (by kernel_rfl) ?_
                    refine l_split (s := 108) (by kernel_rfl) h (fun h => ?_) (fun h => ?_)
                    · refine l_det (some 109) (.tup [], []) (by kernel_rfl) ?_
                      refine l_det (some 110) (.tup [], []) (by kernel_rfl) ?_
                      refine l_det (some 111) (.tup [], []) (by kernel_rfl) ?_
                      refine l_det (some 112) (.tup [], []) (by kernel_rfl) ?_
                      refine l_det (some 113) (.tup [], []) (by kernel_rfl) ?_
                      refine l_det (some 114) (.one (.d (.bool true)), []) (by kernel_rfl) ?_
                      refine l_nil ?_
                      refine q_fall ?_
                      exact Lab.mk true [(200001, some 200001), (200002, some 200002), (200003, some 200003)] (by kernel_rfl) (by kernel_rfl) (by kernel_rfl) (by kernel_rfl) h
                    · refine l_det (some 109) (.one (.ref 14 1 0 3), []) (by kernel_rfl) ?_
                      refine l_det (some 110) (.one (.d (.int .i64 x84489.total.traces)), []) (by kernel_rfl) ?_
                      refine l_det (some 111) (.one (.ref 200004 0 0 3), []) (by kernel_rfl) ?_
                      refine l_det (some 112) (.one (.d (.int .i64 v84447)), []) (by kernel_rfl) ?_
                      refine l_det (some 113) (.one (.d (.bool (decide (x84489.total.traces > v84447)))), []) (by kernel_rfl) ?_
                      refine l_det (some 114) (.one (.d (.bool (decide (x84489.total.traces > v84447)))), []) (by kernel_rfl) ?_
                      refine l_nil ?_
                      refine q_fall ?_
                      exact Lab.mk (decide (x84489.total.traces > v84447)) [(200001, some 200001), (200002, some 200002), (200003, some 200003)] (by kernel_rfl) (by kernel_rfl) (by kernel_rfl) (by kernel_rfl) h
              · rintro v84490 h
                have h : J3_5 K N84232 v83973 v84490 := h
                unfold J3_5 at h
                refine AW.cond' (by kernel_rfl) h (fun h => ?_) (fun h => ?_)
                · refine AW.sregL [(0, none)] (by kernel_rfl) ?_
                  refine l_det (some 4) (.one (.d (.bool false)), []) (by kernel_rfl) ?_
                  refine l_nil ?_
                  refine AW.ret ?_
                  refine q_bret ?_
                  refine q_ret ?_
                  refine q_ret ?_
                  refine q_bret ?_
                  refine q_bret ?_
                  refine q_ret ?_
                  refine q_ret ?_
                  refine q_bret ?_
                  refine q_ret ?_
                  exact q_end [.one (.d (.bool false))] [false] [.one (.d (.bool false))] [] [] (by kernel_rfl) ⟨by kernel_rfl, by kernel_rfl⟩ (by kernel_rfl) (by kernel_rfl) (by kernel_rfl) (by kernel_rfl) (Eq.mp (by kernel_rfl) (hK false h)) (.inr rfl)
                · refine AW.skip ?_
                  refine q_bfall ?_
                  refine q_fall ?_
                  refine AW.regL [(0, none), (1, none), (2, none)] (by kernel_rfl) ?_
                  refine l_det (some 43) (.one (.d (.int .i64 v83973)), []) (by kernel_rfl) ?_
                  refine l_det (some 44) (.one (.d (.int .i64 (w64 (v83973 + 1)))), []) (by kernel_rfl) ?_
                  refine l_det (some 11) (.one (.d (.int .i64 (w64 (v83973 + 1)))), []) (by kernel_rfl) ?_
                  refine l_nil ?_
                  refine q_fall ?_
                  exact Lab.mk (w64 (v83973 + 1)) [(200001, some 200001), (200002, some 200002), (200003, some 200003)] (by kernel_rfl) (by kernel_rfl) (by kernel_rfl) (by kernel_rfl) h
          · refine AW.exit ?_
            refine q_exit ?_
            refine q_exit ?_
            refine q_bhere ?_
            refine q_bfall ?_
            refine q_fall ?_
            refine AW.regL [(0, none), (1, none), (2, none)] (by kernel_rfl) ?_
            refine l_det (some 29) (.one (.d (.int .i64 v81377)), []) (by kernel_rfl) ?_
            refine l_det (some 30) (.one (.d (.int .i64 (w64 (v81377 + 1)))), []) (by kernel_rfl) ?_
            refine l_det (some 8) (.one (.d (.int .i64 (w64 (v81377 + 1)))), []) (by kernel_rfl) ?_
            refine l_nil ?_
            refine q_fall ?_
            exact Lab.mk (w64 (v81377 + 1)) [(200001, some 200001), (200002, some 200002)] (by kernel_rfl) (by kernel_rfl) (by kernel_rfl) (by kernel_rfl) h
      · refine AW.exit ?_
        refine q_exit ?_
        refine q_exit ?_
        refine q_bhere ?_
        refine q_fall ?_
        refine AW.sregL [(0, none)] (by kernel_rfl) ?_
        refine l_det (some 4) (.one (.d (.bool true)), []) (by kernel_rfl) ?_
        refine l_nil ?_
        refine AW.ret ?_
        exact q_end [.one (.d (.bool true))] [false] [.one (.d (.bool true))] [] [] (by kernel_rfl) ⟨by kernel_rfl, by kernel_rfl⟩ (by kernel_rfl) (by kernel_rfl) (by kernel_rfl) (by kernel_rfl) (Eq.mp (by kernel_rfl) (hK true h)) (.inr rfl)
end Go.Proofs.Ytnpdeecoejabgaa
