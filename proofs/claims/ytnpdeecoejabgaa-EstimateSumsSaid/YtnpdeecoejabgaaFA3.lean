/- Go functions: their shallow forms, and that they keep their contracts. Printed by a program of mine (gs.py). -/
import Derived.Test.YtnpdeecoejabgaaFA2
set_option maxRecDepth 100000
set_option linter.unusedVariables false
set_option linter.unusedSimpArgs false
namespace Go.Proofs.Ytnpdeecoejabgaa
open Go Go.RowKit

def r69_0 : List AR := [⟨some 5, .box 27 true 7 (.t 0), [], none⟩,
  ⟨some 10, .alloc 58 true [.int .i64 0, .int .i64 0, .int .i64 0, .int .i64 0, .int .i64 0, .int .i64 0, .str ⟨#[]⟩, .str ⟨#[]⟩, .str ⟨#[]⟩, .int .i64 0, .int .i64 0, .bool false, .nils, .nils], [], none⟩]
def r69_1 : List AR := [⟨some 15, .fad (.t 5) 0, [], none⟩,
  ⟨some 16, .ld false 1 (.t 15), [0], none⟩,
  ⟨some 17, .mov (.t 1), [], none⟩,
  ⟨some 18, .iad 3 (.t 16) (.t 17), [1, 2], none⟩,
  ⟨some 19, .fad (.t 18) 2, [3], none⟩,
  ⟨some 20, .ld false 1 (.t 19), [4], none⟩,
  ⟨some 21, .mov (.t 2), [], none⟩,
  ⟨some 22, .iad 11 (.t 20) (.t 21), [5, 6], none⟩,
  ⟨some 23, .ld true 11 (.t 22), [7], none⟩,
  ⟨some 11, .alloc 153 true [.int .u8 0, .int .u8 0, .int .u8 0, .int .u8 0, .int .u8 0, .int .u8 0, .int .u8 0, .int .u8 0, .int .u8 0, .int .u8 0, .bool false], [], none⟩,
  ⟨none, .st 11 (.t 11) (.t 23), [9, 8, 0, 1, 2, 3, 4, 5, 6, 7, 8, 9], none⟩]
def r69_2 : List AR := [⟨some 24, .ld true 7 (.t 5), [], none⟩,
  ⟨some 25, .mov (.t 1), [], none⟩,
  ⟨some 26, .call 41 [.t 24, .t 25], [0, 1], none⟩,
  ⟨some 27, .mov (.t 2), [], none⟩,
  ⟨some 28, .bin .add (.t 27) (.c (.int .i64 1)), [3], none⟩,
  ⟨some 29, .fad (.t 11) 1, [], none⟩,
  ⟨some 30, .ld false 1 (.t 29), [5], none⟩,
  ⟨some 31, .bin .rem (.t 30) (.c (.int .u8 4)), [6], none⟩,
  ⟨some 32, .cvi .i64 (.t 31), [7], none⟩,
  ⟨some 33, .bin .add (.c (.int .i64 1)) (.t 32), [8], none⟩,
  ⟨some 34, .ld true 11 (.t 11), [], none⟩,
  ⟨some 35, .call 83 [.t 34], [10, 2], none⟩,
  ⟨some 36, .fad (.t 11) 10, [], none⟩,
  ⟨some 37, .ld false 1 (.t 36), [12], none⟩,
  ⟨some 38, .mov (.t 3), [], none⟩,
  ⟨some 39, .mov (.t 2), [], none⟩,
  ⟨some 40, .iad 1 (.t 38) (.t 39), [14, 15], none⟩,
  ⟨some 41, .ld false 1 (.t 40), [16], none⟩,
  ⟨some 42, .mov (.t 4), [], none⟩,
  ⟨some 43, .mov (.t 2), [], none⟩,
  ⟨some 44, .iad 1 (.t 42) (.t 43), [18, 19], none⟩,
  ⟨some 45, .ld false 1 (.t 44), [20], none⟩,
  ⟨some 46, .bld [.int .i64 0, .int .i64 0, .int .i64 0, .int .i64 0, .int .i64 0, .int .i64 0, .str ⟨#[]⟩, .str ⟨#[]⟩, .str ⟨#[]⟩, .int .i64 0, .int .i64 0, .bool false, .nils, .nils] [(0, 1, .t 26), (1, 1, .t 28), (4, 1, .t 33), (5, 1, .t 35), (11, 1, .t 37), (9, 1, .t 41), (10, 1, .t 45)], [2, 4, 9, 11, 13, 17, 21], none⟩,
  ⟨some 12, .alloc 58 true [.int .i64 0, .int .i64 0, .int .i64 0, .int .i64 0, .int .i64 0, .int .i64 0, .str ⟨#[]⟩, .str ⟨#[]⟩, .str ⟨#[]⟩, .int .i64 0, .int .i64 0, .bool false, .nils, .nils], [], none⟩,
  ⟨none, .st 14 (.t 12) (.t 46), [23, 22, 11, 0, 1, 2, 3, 4, 5, 6, 7, 8, 9, 10, 11, 12, 13, 14, 15, 16, 17, 18, 19, 20, 21, 22, 23], none⟩]
def r69_3 : List AR := [⟨some 47, .bsl 9 1 4 [.str ⟨#[]⟩] [(0, .c (.str ⟨#[97, 112, 105]⟩)), (1, .c (.str ⟨#[100, 98]⟩)), (2, .c (.str ⟨#[119, 101, 98]⟩)), (3, .c (.str ⟨#[99, 97, 99, 104, 101]⟩))], [], none⟩,
  ⟨some 48, .fad (.t 11) 3, [], none⟩,
  ⟨some 49, .ld false 1 (.t 48), [1], none⟩,
  ⟨some 50, .bin .rem (.t 49) (.c (.int .u8 4)), [2], none⟩,
  ⟨some 51, .iad 1 (.t 47) (.t 50), [0, 3], none⟩,
  ⟨some 52, .ld false 1 (.t 51), [4], none⟩,
  ⟨some 53, .fad (.t 12) 6, [0, 1, 2, 3, 4, 5], none⟩,
  ⟨none, .st 1 (.t 53) (.t 52), [6, 5, 0, 1, 2, 3, 4, 5], none⟩]
def r69_4 : List AR := [⟨some 54, .bsl 9 1 3 [.str ⟨#[]⟩] [(0, .c (.str ⟨#[118, 49]⟩)), (1, .c (.str ⟨#[118, 50]⟩)), (2, .c (.str ⟨#[]⟩))], [], none⟩,
  ⟨some 55, .fad (.t 11) 4, [], none⟩,
  ⟨some 56, .ld false 1 (.t 55), [1], none⟩,
  ⟨some 57, .bin .rem (.t 56) (.c (.int .u8 3)), [2], none⟩,
  ⟨some 58, .iad 1 (.t 54) (.t 57), [0, 3], none⟩,
  ⟨some 59, .ld false 1 (.t 58), [4], none⟩,
  ⟨some 60, .fad (.t 12) 7, [0, 1, 2, 3, 4, 5], none⟩,
  ⟨none, .st 1 (.t 60) (.t 59), [6, 5, 0, 1, 2, 3, 4, 5], none⟩]
def r69_5 : List AR := [⟨some 61, .bsl 9 1 3 [.str ⟨#[]⟩] [(0, .c (.str ⟨#[103, 101, 116]⟩)), (1, .c (.str ⟨#[112, 117, 116]⟩)), (2, .c (.str ⟨#[108, 105, 115, 116]⟩))], [], none⟩,
  ⟨some 62, .fad (.t 11) 5, [], none⟩,
  ⟨some 63, .ld false 1 (.t 62), [1], none⟩,
  ⟨some 64, .bin .rem (.t 63) (.c (.int .u8 3)), [2], none⟩,
  ⟨some 65, .iad 1 (.t 61) (.t 64), [0, 3], none⟩,
  ⟨some 66, .ld false 1 (.t 65), [4], none⟩,
  ⟨some 67, .fad (.t 12) 8, [0, 1, 2, 3, 4, 5], none⟩,
  ⟨none, .st 1 (.t 67) (.t 66), [6, 5, 0, 1, 2, 3, 4, 5], none⟩]
def r69_6 : List AR := [⟨some 68, .fad (.t 11) 0, [], none⟩,
  ⟨some 69, .ld false 1 (.t 68), [0], none⟩,
  ⟨some 70, .cvi .i64 (.t 69), [1], none⟩,
  ⟨some 71, .mov (.t 2), [], none⟩,
  ⟨some 72, .bin .add (.t 71) (.c (.int .i64 1)), [3], none⟩,
  ⟨some 73, .bin .rem (.t 70) (.t 72), [2, 4], none⟩,
  ⟨some 13, .mov (.t 73), [5, 0, 1, 2, 3, 4, 5], none⟩]
def r69_7 : List AR := [⟨some 74, .mov (.t 13), [], none⟩,
  ⟨some 75, .mov (.t 2), [], none⟩,
  ⟨some 76, .bin .lss (.t 74) (.t 75), [0, 1], none⟩]
def r69_8 : List AR := [⟨some 77, .mov (.t 13), [], none⟩,
  ⟨some 78, .bin .add (.t 77) (.c (.int .i64 1)), [0], none⟩,
  ⟨some 79, .fad (.t 12) 2, [0, 1], none⟩,
  ⟨none, .st 1 (.t 79) (.t 78), [2, 1, 0, 1], none⟩]
def r69_9 : List AR := [⟨some 80, .mov (.t 2), [], none⟩,
  ⟨some 81, .bin .gtr (.t 80) (.c (.int .i64 0)), [0], none⟩]
def r69_10 : List AR := [⟨some 82, .fad (.t 12) 2, [], none⟩,
  ⟨none, .st 1 (.t 82) (.c (.int .i64 100)), [0], none⟩]
def r69_11 : List AR := [⟨some 83, .fad (.t 11) 8, [], none⟩,
  ⟨some 84, .ld false 1 (.t 83), [0], none⟩,
  ⟨some 85, .bin .rem (.t 84) (.c (.int .u8 16)), [1], none⟩,
  ⟨some 86, .cvi .i64 (.t 85), [2], none⟩,
  ⟨some 14, .mov (.t 86), [3, 0, 1, 2, 3], none⟩]
def r69_12 : List AR := [⟨some 87, .mov (.t 14), [], none⟩,
  ⟨some 88, .mov (.t 2), [], none⟩,
  ⟨some 89, .bin .lss (.t 87) (.t 88), [0, 1], none⟩,
  ⟨some 90, .mov (.t 89), [2], none⟩,
  ⟨some 91, .mov (.t 3), [3], some (90, true)⟩,
  ⟨some 92, .mov (.t 14), [3], some (90, true)⟩,
  ⟨some 93, .iad 1 (.t 91) (.t 92), [4, 5, 3], some (90, true)⟩,
  ⟨some 94, .ld false 1 (.t 93), [6, 3], some (90, true)⟩,
  ⟨some 95, .mov (.t 3), [3], some (90, true)⟩,
  ⟨some 96, .mov (.t 2), [3], some (90, true)⟩,
  ⟨some 97, .iad 1 (.t 95) (.t 96), [8, 9, 3], some (90, true)⟩,
  ⟨some 98, .ld false 1 (.t 97), [10, 3], some (90, true)⟩,
  ⟨some 99, .bin .leq (.t 94) (.t 98), [7, 11, 3], some (90, true)⟩,
  ⟨some 100, .pick (.t 90) (.t 99) (.c (.bool false)), [3, 12], none⟩]
def r69_13 : List AR := [⟨some 101, .fad (.t 12) 0, [], none⟩,
  ⟨some 102, .ld false 1 (.t 101), [0], none⟩,
  ⟨some 103, .mov (.t 14), [], none⟩,
  ⟨some 104, .bin .add (.t 103) (.c (.int .i64 1)), [2], none⟩,
  ⟨some 105, .bld [.int .i64 0, .int .i64 0] [(0, 1, .t 102), (1, 1, .t 104)], [1, 3], none⟩,
  ⟨some 106, .bsl 146 2 1 [.int .i64 0, .int .i64 0] [(0, .t 105)], [4], none⟩,
  ⟨some 107, .fad (.t 12) 13, [0, 1, 2, 3, 4, 5], none⟩,
  ⟨none, .st 1 (.t 107) (.t 106), [6, 5, 0, 1, 2, 3, 4, 5], none⟩]
def r69_14 : List AR := [⟨some 108, .ld true 11 (.t 11), [], none⟩,
  ⟨some 109, .call 84 [.t 108], [0], none⟩,
  ⟨some 110, .fad (.t 12) 12, [0, 1], none⟩,
  ⟨none, .st 1 (.t 110) (.t 109), [2, 1, 1, 0, 1], none⟩]
def r69_15 : List AR := [⟨some 111, .ld true 14 (.t 12), [], none⟩,
  ⟨none, .st 14 (.t 10) (.t 111), [0, 0], none⟩]
def c69 : ACode := .seq (.reg r69_0 false) (.seq (.reg r69_1 false) (.seq (.reg r69_2 true) (.seq (.reg r69_3 false) (.seq (.reg r69_4 false) (.seq (.reg r69_5 false) (.seq (.seq (.reg r69_6 false) (.seq (.reg r69_7 false) (.cond (.t 76) (.reg r69_8 false) (.seq (.reg r69_9 false) (.cond (.t 81) (.reg r69_10 false) (.skip)))))) (.seq (.seq (.reg r69_11 false) (.seq (.reg r69_12 true) (.cond (.t 100) (.reg r69_13 false) (.skip)))) (.seq (.reg r69_14 false) (.seq (.reg r69_15 false) (.ret))))))))))
theorem body69 : Try.f69.body.map (comp Try.prog 112) = some c69 := by kernel_rfl
theorem res69 : allSome (Try.f69.results.toList.map (compRes Try.prog)) = some [.c 10 true 14] := by kernel_rfl
theorem cok69 {S : FSpec} (h : ∀ args K, S args K → args.all argOk = true ∧ args.length ≤ 112 ∧ AW Try.prog 112 (some ownP) c69 (initS args) (retPost [.c 10 true 14] args K)) : COK Try.prog 69 S := of_body Try.func69 Try.ntmps69 body69 res69 h

def J69_2 (x2755 : TCall) (K : TSpan → Prop) (r2762 : Int) (i_69 : Int) (v2770 : Int) (r2763 : Int) (x2765 : ByteArray) (x2767 : ByteArray) (x2769 : ByteArray) (x2760 : Int) (x2761 : Int) (v2779 : List TRef) : Prop :=
  W84 x2755 fun r2783 => K (TSpan.mk r2762 (w64 (i_69 + 1)) v2770 0 (w64 (1 + (w64 (Int.tmod x2755.clock 4)))) r2763 x2765 x2767 x2769 x2760 x2761 x2755.fail r2783 v2779)

def J69_3 (x2755 : TCall) (K : TSpan → Prop) (r2762 : Int) (i_69 : Int) (v2770 : Int) (r2763 : Int) (x2765 : ByteArray) (x2767 : ByteArray) (x2769 : ByteArray) (x2760 : Int) (x2761 : Int) (v2786 : Bool) : Prop :=
  Cond v2786 (J69_2 x2755 K r2762 i_69 v2770 r2763 x2765 x2767 x2769 x2760 x2761 [(TRef.mk r2762 (w64 ((w64 (Int.tmod x2755.link 16)) + 1)))]) (J69_2 x2755 K r2762 i_69 v2770 r2763 x2765 x2767 x2769 x2760 x2761 [])

def J69_1 (x2755 : TCall) (i_69 : Int) (start_69 : List Int) (K : TSpan → Prop) (r2762 : Int) (r2763 : Int) (x2765 : ByteArray) (x2767 : ByteArray) (x2769 : ByteArray) (x2760 : Int) (x2761 : Int) (v2770 : Int) : Prop :=
  Cond (decide ((w64 (Int.tmod x2755.link 16)) < i_69)) (Idx start_69 (w64 (Int.tmod x2755.link 16)) fun x2787 => J69_3 x2755 K r2762 i_69 v2770 r2763 x2765 x2767 x2769 x2760 x2761 (decide (x2787 ≤ x2760))) (J69_3 x2755 K r2762 i_69 v2770 r2763 x2765 x2767 x2769 x2760 x2761 false)

/-- sleuth/sleuthlaw13.made -/
def W69 (s_69 : TStory) (k_69 : Int) (i_69 : Int) (start_69 : List Int) (end_4_69 : List Int) (K : TSpan → Prop) : Prop :=
  Idx s_69.trees k_69 fun x2754 => Idx x2754.calls i_69 fun x2755 => Idx start_69 i_69 fun x2760 => Idx end_4_69 i_69 fun x2761 => W41 s_69 k_69 fun r2762 => W83 x2755 fun r2763 => Idx [(⟨#[97, 112, 105]⟩ : ByteArray), (⟨#[100, 98]⟩ : ByteArray), (⟨#[119, 101, 98]⟩ : ByteArray), (⟨#[99, 97, 99, 104, 101]⟩ : ByteArray)] (Int.tmod x2755.service 4) fun x2765 => Idx [(⟨#[118, 49]⟩ : ByteArray), (⟨#[118, 50]⟩ : ByteArray), (⟨#[]⟩ : ByteArray)] (Int.tmod x2755.version 3) fun x2767 => Idx [(⟨#[103, 101, 116]⟩ : ByteArray), (⟨#[112, 117, 116]⟩ : ByteArray), (⟨#[108, 105, 115, 116]⟩ : ByteArray)] (Int.tmod x2755.operation 3) fun x2769 => (w64 (i_69 + 1)) ≠ 0 ∧ (Cond (decide ((Int.tmod (w64 x2755.parent) (w64 (i_69 + 1))) < i_69)) (J69_1 x2755 i_69 start_69 K r2762 r2763 x2765 x2767 x2769 x2760 x2761 (w64 ((Int.tmod (w64 x2755.parent) (w64 (i_69 + 1))) + 1))) (Cond (decide (i_69 > 0)) (J69_1 x2755 i_69 start_69 K r2762 r2763 x2765 x2767 x2769 x2760 x2761 100) (J69_1 x2755 i_69 start_69 K r2762 r2763 x2765 x2767 x2769 x2760 x2761 0)))

def S69 : FSpec := fun args K => ∃ (s_69 : TStory), ∃ (k_69 : Int), ∃ (i_69 : Int), ∃ (start_69 : List Int), ∃ (end_4_69 : List Int), ∃ (Kr : TSpan → Prop), args = [.agg (List.map RC.d (TStory.enc s_69)), .one (.d (.int .i64 k_69)), .one (.d (.int .i64 i_69)), .one (.d (.sl (List.map (eInt .i64) start_69))), .one (.d (.sl (List.map (eInt .i64) end_4_69)))] ∧ W69 s_69 k_69 i_69 start_69 end_4_69 Kr ∧ ∀ r, Kr r → K (.agg (List.map RC.d (TSpan.enc r))) []

theorem en69 : enters Try.prog 69 = true := by unfold enters; rw [Try.func69]; rfl
theorem cl69 (s_69 : TStory) (k_69 : Int) (i_69 : Int) (start_69 : List Int) (end_4_69 : List Int) {Kr : TSpan → Prop} (h : W69 s_69 k_69 i_69 start_69 end_4_69 Kr) : S69 [.agg (List.map RC.d (TStory.enc s_69)), .one (.d (.int .i64 k_69)), .one (.d (.int .i64 i_69)), .one (.d (.sl (List.map (eInt .i64) start_69))), .one (.d (.sl (List.map (eInt .i64) end_4_69)))] (fun rv rows => ∃ r, rv = (.agg (List.map RC.d (TSpan.enc r))) ∧ rows = [] ∧ Kr r) := ⟨s_69, k_69, i_69, start_69, end_4_69, Kr, rfl, h, fun r hr => ⟨r, rfl, rfl, hr⟩⟩

theorem ok69 : COK Try.prog 69 S69 := by
  refine cok69 fun args K0 hS => ?_
  obtain ⟨s_69, k_69, i_69, start_69, end_4_69, K, rfl, h, hK⟩ := hS
  refine ⟨by kernel_rfl, by simp, ?_⟩
  unfold W69 at h
  refine AW.sregL [(0, none), (1, none)] (by kernel_rfl) ?_
  refine l_det (some 5) (.one (.ref 5 1 0 0), [(5, 1, .row true 27 7 [[.d (.sl (List.map TTree.enc s_69.trees)), .d (.int .i8 s_69.offsets.e0), .d (.int .i8 s_69.offsets.e1), .d (.int .i8 s_69.offsets.e2), .d (.int .i8 s_69.offsets.e3), .d (.sl (List.map TSync.enc s_69.syncs)), .d (.int .u8 s_69.wrong)]])]) (by kernel_rfl) ?_
  refine l_det (some 10) (.one (.ref 10 1 0 0), [(10, 1, .row true 58 14 [[.d (.int .i64 0), .d (.int .i64 0), .d (.int .i64 0), .d (.int .i64 0), .d (.int .i64 0), .d (.int .i64 0), .d (.str (⟨#[]⟩ : ByteArray)), .d (.str (⟨#[]⟩ : ByteArray)), .d (.str (⟨#[]⟩ : ByteArray)), .d (.int .i64 0), .d (.int .i64 0), .d (.bool false), .nils, .nils]])]) (by kernel_rfl) ?_
  refine l_nil ?_
  refine AW.sregL [(0, none), (1, none), (2, none), (3, none), (4, none), (5, none), (6, none), (7, none), (8, none), (9, none), (10, none)] (by kernel_rfl) ?_
  refine l_ds 15 (.one (.ref 5 1 0 0)) ?_
  refine l_ds 16 (.one (.d (.sl (List.map TTree.enc s_69.trees)))) ?_
  refine l_ds 17 (.one (.d (.int .i64 k_69))) ?_
  obtain ⟨h5, x2754, h6, h⟩ := h
  refine l_spec (some 18) (.iad 3 (.t 16) (.t 17)) (.one (.d (.ptr [.int .u8 x2754.slot, .int .u8 x2754.start, .sl (List.map TCall.enc x2754.calls)])), []) (by kernel_rfl) (detA_none (d_iad_sl (enc := TTree.enc) (k := .i64) s_69.trees x2754 (by kernel_rfl) (by kernel_rfl) h5 h6 rfl)) ?_
  refine l_ds 19 (.one (.d (.ptr [.sl (List.map TCall.enc x2754.calls)]))) ?_
  refine l_ds 20 (.one (.d (.sl (List.map TCall.enc x2754.calls)))) ?_
  refine l_ds 21 (.one (.d (.int .i64 i_69))) ?_
  obtain ⟨h7, x2755, h8, h⟩ := h
  refine l_spec (some 22) (.iad 11 (.t 20) (.t 21)) (.one (.d (.ptr [.int .u8 x2755.parent, .int .u8 x2755.clock, .int .u8 x2755.kind, .int .u8 x2755.service, .int .u8 x2755.version, .int .u8 x2755.operation, .int .u8 x2755.wait, .int .u8 x2755.long, .int .u8 x2755.link, .int .u8 x2755.tag, .bool x2755.fail])), []) (by kernel_rfl) (detA_none (d_iad_sl (enc := TCall.enc) (k := .i64) x2754.calls x2755 (by kernel_rfl) (by kernel_rfl) h7 h8 rfl)) ?_
  refine l_ds 23 (.agg [.d (.int .u8 x2755.parent), .d (.int .u8 x2755.clock), .d (.int .u8 x2755.kind), .d (.int .u8 x2755.service), .d (.int .u8 x2755.version), .d (.int .u8 x2755.operation), .d (.int .u8 x2755.wait), .d (.int .u8 x2755.long), .d (.int .u8 x2755.link), .d (.int .u8 x2755.tag), .d (.bool x2755.fail)]) ?_
  refine l_det (some 11) (.one (.ref 11 1 0 0), [(11, 1, .row true 153 11 [[.d (.int .u8 0), .d (.int .u8 0), .d (.int .u8 0), .d (.int .u8 0), .d (.int .u8 0), .d (.int .u8 0), .d (.int .u8 0), .d (.int .u8 0), .d (.int .u8 0), .d (.int .u8 0), .d (.bool false)]])]) (by kernel_rfl) ?_
  refine l_det none (.tup [], [(11, 1, .row true 153 11 [[.d (.int .u8 x2755.parent), .d (.int .u8 x2755.clock), .d (.int .u8 x2755.kind), .d (.int .u8 x2755.service), .d (.int .u8 x2755.version), .d (.int .u8 x2755.operation), .d (.int .u8 x2755.wait), .d (.int .u8 x2755.long), .d (.int .u8 x2755.link), .d (.int .u8 x2755.tag), .d (.bool x2755.fail)]])]) (by kernel_rfl) ?_
  refine l_nil ?_
  refine AW.sregdL follows_mixed [[], [], [0, 1], [], [3], [], [5], [5, 6], [5, 6, 7], [5, 6, 7, 8], [], [0, 1, 2, 10], [], [12], [], [], [14, 15], [14, 15, 16], [], [], [18, 19], [18, 19, 20], [0, 1, 2, 3, 4, 5, 6, 7, 8, 9, 10, 11, 12, 13, 14, 15, 16, 17, 18, 19, 20, 21], [], [0, 1, 2, 3, 4, 5, 6, 7, 8, 9, 10, 11, 12, 13, 14, 15, 16, 17, 18, 19, 20, 21, 22, 23]] [(0, some [24, 1000005]), (1, none), (3, none), (4, none), (5, none), (6, some [30, 1000011]), (7, none), (8, none), (9, none), (10, some [34, 1000011]), (12, none), (13, some [37, 1000011]), (14, none), (15, none), (16, some [40]), (17, some [41]), (18, none), (19, none), (20, some [44]), (21, some [45]), (23, some [12]), (2, some [26]), (11, some [35]), (22, none), (24, none)] (by kernel_rfl) ?_
  refine l_ds 24 (.agg [.d (.sl (List.map TTree.enc s_69.trees)), .d (.int .i8 s_69.offsets.e0), .d (.int .i8 s_69.offsets.e1), .d (.int .i8 s_69.offsets.e2), .d (.int .i8 s_69.offsets.e3), .d (.sl (List.map TSync.enc s_69.syncs)), .d (.int .u8 s_69.wrong)]) ?_
  refine l_ds 25 (.one (.d (.int .i64 k_69))) ?_
  refine l_ds 27 (.one (.d (.int .i64 i_69))) ?_
  refine l_ds 28 (.one (.d (.int .i64 (w64 (i_69 + 1))))) ?_
  refine l_ds 29 (.one (.ref 11 1 0 1)) ?_
  refine l_ds 30 (.one (.d (.int .u8 x2755.clock))) ?_
  refine l_ds 31 (.one (.d (.int .u8 (Int.tmod x2755.clock 4)))) ?_
  refine l_ds 32 (.one (.d (.int .i64 (w64 (Int.tmod x2755.clock 4))))) ?_
  refine l_ds 33 (.one (.d (.int .i64 (w64 (1 + (w64 (Int.tmod x2755.clock 4))))))) ?_
  refine l_ds 34 (.agg [.d (.int .u8 x2755.parent), .d (.int .u8 x2755.clock), .d (.int .u8 x2755.kind), .d (.int .u8 x2755.service), .d (.int .u8 x2755.version), .d (.int .u8 x2755.operation), .d (.int .u8 x2755.wait), .d (.int .u8 x2755.long), .d (.int .u8 x2755.link), .d (.int .u8 x2755.tag), .d (.bool x2755.fail)]) ?_
  refine l_ds 36 (.one (.ref 11 1 0 10)) ?_
  refine l_ds 37 (.one (.d (.bool x2755.fail))) ?_
  refine l_ds 38 (.one (.d (.sl (List.map (eInt .i64) start_69)))) ?_
  refine l_ds 39 (.one (.d (.int .i64 i_69))) ?_
  obtain ⟨h15, x2760, h16, h⟩ := h
  refine l_spec (some 40) (.iad 1 (.t 38) (.t 39)) (.one (.d (.ptr [.int .i64 x2760])), []) (by kernel_rfl) (detA_some (d_iad_sl (enc := (eInt .i64)) (k := .i64) start_69 x2760 (by kernel_rfl) (by kernel_rfl) h15 h16 rfl) (by kernel_rfl)) ?_
  refine l_ds 41 (.one (.d (.int .i64 x2760))) ?_
  refine l_ds 42 (.one (.d (.sl (List.map (eInt .i64) end_4_69)))) ?_
  refine l_ds 43 (.one (.d (.int .i64 i_69))) ?_
  obtain ⟨h17, x2761, h18, h⟩ := h
  refine l_spec (some 44) (.iad 1 (.t 42) (.t 43)) (.one (.d (.ptr [.int .i64 x2761])), []) (by kernel_rfl) (detA_some (d_iad_sl (enc := (eInt .i64)) (k := .i64) end_4_69 x2761 (by kernel_rfl) (by kernel_rfl) h17 h18 rfl) (by kernel_rfl)) ?_
  refine l_ds 45 (.one (.d (.int .i64 x2761))) ?_
  refine l_det (some 12) (.one (.ref 12 1 0 0), [(12, 1, .row true 58 14 [[.d (.int .i64 0), .d (.int .i64 0), .d (.int .i64 0), .d (.int .i64 0), .d (.int .i64 0), .d (.int .i64 0), .d (.str (⟨#[]⟩ : ByteArray)), .d (.str (⟨#[]⟩ : ByteArray)), .d (.str (⟨#[]⟩ : ByteArray)), .d (.int .i64 0), .d (.int .i64 0), .d (.bool false), .nils, .nils]])]) (by kernel_rfl) ?_
  refine l_call ok41 en41 (some 26) [.agg [.d (.sl (List.map TTree.enc s_69.trees)), .d (.int .i8 s_69.offsets.e0), .d (.int .i8 s_69.offsets.e1), .d (.int .i8 s_69.offsets.e2), .d (.int .i8 s_69.offsets.e3), .d (.sl (List.map TSync.enc s_69.syncs)), .d (.int .u8 s_69.wrong)], .one (.d (.int .i64 k_69))] [false, false] [.agg (List.map RC.d [.sl (List.map TTree.enc s_69.trees), .int .i8 s_69.offsets.e0, .int .i8 s_69.offsets.e1, .int .i8 s_69.offsets.e2, .int .i8 s_69.offsets.e3, .sl (List.map TSync.enc s_69.syncs), .int .u8 s_69.wrong]), .one (.d (.int .i64 k_69))] [] (by kernel_rfl) ⟨by kernel_rfl, by kernel_rfl⟩ (by kernel_rfl) (by kernel_rfl) (by kernel_rfl) (cl41 s_69 k_69 h) ?_
  rintro hR _ _ ⟨r2762, rfl, rfl, h⟩
  refine ⟨false, (.one (.d (.int .i64 r2762)), []), (fun hz => (by cases hz)), (ret_R hR (by kernel_rfl)), ?_⟩
  refine l_call ok83 en83 (some 35) [.agg [.d (.int .u8 x2755.parent), .d (.int .u8 x2755.clock), .d (.int .u8 x2755.kind), .d (.int .u8 x2755.service), .d (.int .u8 x2755.version), .d (.int .u8 x2755.operation), .d (.int .u8 x2755.wait), .d (.int .u8 x2755.long), .d (.int .u8 x2755.link), .d (.int .u8 x2755.tag), .d (.bool x2755.fail)]] [false] [.agg (List.map RC.d [.int .u8 x2755.parent, .int .u8 x2755.clock, .int .u8 x2755.kind, .int .u8 x2755.service, .int .u8 x2755.version, .int .u8 x2755.operation, .int .u8 x2755.wait, .int .u8 x2755.long, .int .u8 x2755.link, .int .u8 x2755.tag, .bool x2755.fail])] [] (by kernel_rfl) ⟨by kernel_rfl, by kernel_rfl⟩ (by kernel_rfl) (by kernel_rfl) (by kernel_rfl) (cl83 x2755 h) ?_
  rintro hR _ _ ⟨r2763, rfl, rfl, h⟩
  refine ⟨false, (.one (.d (.int .i64 r2763)), []), (fun hz => (by cases hz)), (ret_R hR (by kernel_rfl)), ?_⟩
  refine l_ds 46 (.agg [.d (.int .i64 r2762), .d (.int .i64 (w64 (i_69 + 1))), .d (.int .i64 0), .d (.int .i64 0), .d (.int .i64 (w64 (1 + (w64 (Int.tmod x2755.clock 4))))), .d (.int .i64 r2763), .d (.str (⟨#[]⟩ : ByteArray)), .d (.str (⟨#[]⟩ : ByteArray)), .d (.str (⟨#[]⟩ : ByteArray)), .d (.int .i64 x2760), .d (.int .i64 x2761), .d (.bool x2755.fail), .nils, .nils]) ?_
  refine l_det none (.tup [], [(12, 1, .row true 58 14 [[.d (.int .i64 r2762), .d (.int .i64 (w64 (i_69 + 1))), .d (.int .i64 0), .d (.int .i64 0), .d (.int .i64 (w64 (1 + (w64 (Int.tmod x2755.clock 4))))), .d (.int .i64 r2763), .d (.str (⟨#[]⟩ : ByteArray)), .d (.str (⟨#[]⟩ : ByteArray)), .d (.str (⟨#[]⟩ : ByteArray)), .d (.int .i64 x2760), .d (.int .i64 x2761), .d (.bool x2755.fail), .nils, .nils]])]) (by kernel_rfl) ?_
  refine l_nil ?_
  refine AW.sregL [(0, none), (1, none), (2, none), (3, none), (4, none), (5, none), (6, none), (7, none)] (by kernel_rfl) ?_
  refine l_det (some 47) (.one (.view 47 1 0 4), [(47, 1, .row true 9 1 [[.d (.str (⟨#[97, 112, 105]⟩ : ByteArray))], [.d (.str (⟨#[100, 98]⟩ : ByteArray))], [.d (.str (⟨#[119, 101, 98]⟩ : ByteArray))], [.d (.str (⟨#[99, 97, 99, 104, 101]⟩ : ByteArray))]])]) (by kernel_rfl) ?_
  refine l_ds 48 (.one (.ref 11 1 0 3)) ?_
  refine l_ds 49 (.one (.d (.int .u8 x2755.service))) ?_
  refine l_ds 50 (.one (.d (.int .u8 (Int.tmod x2755.service 4)))) ?_
  obtain ⟨h23, x2765, h24, h⟩ := h
  refine l_spec (some 51) (.iad 1 (.t 47) (.t 50)) (.one (.ref 47 1 ((Int.tmod x2755.service 4).toNat) 0), []) (by kernel_rfl) (detA_none (d_iad_v (enc := eStr) (k := .u8) (E := 9) (l := true) (ys := dmm (List.map eStr [(⟨#[97, 112, 105]⟩ : ByteArray), (⟨#[100, 98]⟩ : ByteArray), (⟨#[119, 101, 98]⟩ : ByteArray), (⟨#[99, 97, 99, 104, 101]⟩ : ByteArray)])) [(⟨#[97, 112, 105]⟩ : ByteArray), (⟨#[100, 98]⟩ : ByteArray), (⟨#[119, 101, 98]⟩ : ByteArray), (⟨#[99, 97, 99, 104, 101]⟩ : ByteArray)] x2765 (by kernel_rfl) (by kernel_rfl) (by kernel_rfl) (by kernel_rfl) h23 h24)) ?_
  refine l_spec (some 52) (.ld false 1 (.t 51)) (.one (.d (.str x2765)), []) (by kernel_rfl) (detA_none (d_ld_row (enc := eStr) (o := 47) (g := 1) (i := ((Int.tmod x2755.service 4).toNat)) (off := 0) (E := 9) (sz := 1) (l := true) [(⟨#[97, 112, 105]⟩ : ByteArray), (⟨#[100, 98]⟩ : ByteArray), (⟨#[119, 101, 98]⟩ : ByteArray), (⟨#[99, 97, 99, 104, 101]⟩ : ByteArray)] x2765 (by kernel_rfl) (by kernel_rfl) (by kernel_rfl) h24 (by kernel_rfl))) ?_
  refine l_ds 53 (.one (.ref 12 1 0 6)) ?_
  refine l_det none (.tup [], [(12, 1, .row true 58 14 [[.d (.int .i64 r2762), .d (.int .i64 (w64 (i_69 + 1))), .d (.int .i64 0), .d (.int .i64 0), .d (.int .i64 (w64 (1 + (w64 (Int.tmod x2755.clock 4))))), .d (.int .i64 r2763), .d (.str x2765), .d (.str (⟨#[]⟩ : ByteArray)), .d (.str (⟨#[]⟩ : ByteArray)), .d (.int .i64 x2760), .d (.int .i64 x2761), .d (.bool x2755.fail), .nils, .nils]])]) (by kernel_rfl) ?_
  refine l_nil ?_
  refine AW.sregL [(0, none), (1, none), (2, none), (3, none), (4, none), (5, none), (6, none), (7, none)] (by kernel_rfl) ?_
  refine l_det (some 54) (.one (.view 54 1 0 3), [(54, 1, .row true 9 1 [[.d (.str (⟨#[118, 49]⟩ : ByteArray))], [.d (.str (⟨#[118, 50]⟩ : ByteArray))], [.d (.str (⟨#[]⟩ : ByteArray))]])]) (by kernel_rfl) ?_
  refine l_ds 55 (.one (.ref 11 1 0 4)) ?_
  refine l_ds 56 (.one (.d (.int .u8 x2755.version))) ?_
  refine l_ds 57 (.one (.d (.int .u8 (Int.tmod x2755.version 3)))) ?_
  obtain ⟨h27, x2767, h28, h⟩ := h
  refine l_spec (some 58) (.iad 1 (.t 54) (.t 57)) (.one (.ref 54 1 ((Int.tmod x2755.version 3).toNat) 0), []) (by kernel_rfl) (detA_none (d_iad_v (enc := eStr) (k := .u8) (E := 9) (l := true) (ys := dmm (List.map eStr [(⟨#[118, 49]⟩ : ByteArray), (⟨#[118, 50]⟩ : ByteArray), (⟨#[]⟩ : ByteArray)])) [(⟨#[118, 49]⟩ : ByteArray), (⟨#[118, 50]⟩ : ByteArray), (⟨#[]⟩ : ByteArray)] x2767 (by kernel_rfl) (by kernel_rfl) (by kernel_rfl) (by kernel_rfl) h27 h28)) ?_
  refine l_spec (some 59) (.ld false 1 (.t 58)) (.one (.d (.str x2767)), []) (by kernel_rfl) (detA_none (d_ld_row (enc := eStr) (o := 54) (g := 1) (i := ((Int.tmod x2755.version 3).toNat)) (off := 0) (E := 9) (sz := 1) (l := true) [(⟨#[118, 49]⟩ : ByteArray), (⟨#[118, 50]⟩ : ByteArray), (⟨#[]⟩ : ByteArray)] x2767 (by kernel_rfl) (by kernel_rfl) (by kernel_rfl) h28 (by kernel_rfl))) ?_
  refine l_ds 60 (.one (.ref 12 1 0 7)) ?_
  refine l_det none (.tup [], [(12, 1, .row true 58 14 [[.d (.int .i64 r2762), .d (.int .i64 (w64 (i_69 + 1))), .d (.int .i64 0), .d (.int .i64 0), .d (.int .i64 (w64 (1 + (w64 (Int.tmod x2755.clock 4))))), .d (.int .i64 r2763), .d (.str x2765), .d (.str x2767), .d (.str (⟨#[]⟩ : ByteArray)), .d (.int .i64 x2760), .d (.int .i64 x2761), .d (.bool x2755.fail), .nils, .nils]])]) (by kernel_rfl) ?_
  refine l_nil ?_
  refine AW.sregL [(0, none), (1, none), (2, none), (3, none), (4, none), (5, none), (6, none), (7, none)] (by kernel_rfl) ?_
  refine l_det (some 61) (.one (.view 61 1 0 3), [(61, 1, .row true 9 1 [[.d (.str (⟨#[103, 101, 116]⟩ : ByteArray))], [.d (.str (⟨#[112, 117, 116]⟩ : ByteArray))], [.d (.str (⟨#[108, 105, 115, 116]⟩ : ByteArray))]])]) (by kernel_rfl) ?_
  refine l_ds 62 (.one (.ref 11 1 0 5)) ?_
  refine l_ds 63 (.one (.d (.int .u8 x2755.operation))) ?_
  refine l_ds 64 (.one (.d (.int .u8 (Int.tmod x2755.operation 3)))) ?_
  obtain ⟨h31, x2769, h32, h⟩ := h
  refine l_spec (some 65) (.iad 1 (.t 61) (.t 64)) (.one (.ref 61 1 ((Int.tmod x2755.operation 3).toNat) 0), []) (by kernel_rfl) (detA_none (d_iad_v (enc := eStr) (k := .u8) (E := 9) (l := true) (ys := dmm (List.map eStr [(⟨#[103, 101, 116]⟩ : ByteArray), (⟨#[112, 117, 116]⟩ : ByteArray), (⟨#[108, 105, 115, 116]⟩ : ByteArray)])) [(⟨#[103, 101, 116]⟩ : ByteArray), (⟨#[112, 117, 116]⟩ : ByteArray), (⟨#[108, 105, 115, 116]⟩ : ByteArray)] x2769 (by kernel_rfl) (by kernel_rfl) (by kernel_rfl) (by kernel_rfl) h31 h32)) ?_
  refine l_spec (some 66) (.ld false 1 (.t 65)) (.one (.d (.str x2769)), []) (by kernel_rfl) (detA_none (d_ld_row (enc := eStr) (o := 61) (g := 1) (i := ((Int.tmod x2755.operation 3).toNat)) (off := 0) (E := 9) (sz := 1) (l := true) [(⟨#[103, 101, 116]⟩ : ByteArray), (⟨#[112, 117, 116]⟩ : ByteArray), (⟨#[108, 105, 115, 116]⟩ : ByteArray)] x2769 (by kernel_rfl) (by kernel_rfl) (by kernel_rfl) h32 (by kernel_rfl))) ?_
  refine l_ds 67 (.one (.ref 12 1 0 8)) ?_
  refine l_det none (.tup [], [(12, 1, .row true 58 14 [[.d (.int .i64 r2762), .d (.int .i64 (w64 (i_69 + 1))), .d (.int .i64 0), .d (.int .i64 0), .d (.int .i64 (w64 (1 + (w64 (Int.tmod x2755.clock 4))))), .d (.int .i64 r2763), .d (.str x2765), .d (.str x2767), .d (.str x2769), .d (.int .i64 x2760), .d (.int .i64 x2761), .d (.bool x2755.fail), .nils, .nils]])]) (by kernel_rfl) ?_
  refine l_nil ?_
  refine AW.seqL (S := Int) (fun s => (fun (v2770 : Int) => [(2, .one (.d (.int .i64 i_69))), (3, .one (.d (.sl (List.map (eInt .i64) start_69)))), (10, .one (.ref 200001 0 0 0)), (11, .one (.ref 200002 0 0 0)), (12, .one (.ref 200003 0 0 0))]) s) (fun s => (fun (v2770 : Int) => [(200001, .expl true 58 14 [[.d (.int .i64 0), .d (.int .i64 0), .d (.int .i64 0), .d (.int .i64 0), .d (.int .i64 0), .d (.int .i64 0), .d (.str (⟨#[]⟩ : ByteArray)), .d (.str (⟨#[]⟩ : ByteArray)), .d (.str (⟨#[]⟩ : ByteArray)), .d (.int .i64 0), .d (.int .i64 0), .d (.bool false), .nils, .nils]]), (200002, .expl true 153 11 [[.d (.int .u8 x2755.parent), .d (.int .u8 x2755.clock), .d (.int .u8 x2755.kind), .d (.int .u8 x2755.service), .d (.int .u8 x2755.version), .d (.int .u8 x2755.operation), .d (.int .u8 x2755.wait), .d (.int .u8 x2755.long), .d (.int .u8 x2755.link), .d (.int .u8 x2755.tag), .d (.bool x2755.fail)]]), (200003, .expl true 58 14 [[.d (.int .i64 r2762), .d (.int .i64 (w64 (i_69 + 1))), .d (.int .i64 v2770), .d (.int .i64 0), .d (.int .i64 (w64 (1 + (w64 (Int.tmod x2755.clock 4))))), .d (.int .i64 r2763), .d (.str x2765), .d (.str x2767), .d (.str x2769), .d (.int .i64 x2760), .d (.int .i64 x2761), .d (.bool x2755.fail), .nils, .nils]])]) s) (fun s : Int => J69_1 x2755 i_69 start_69 K r2762 r2763 x2765 x2767 x2769 x2760 x2761 s) ?_ ?_
  · refine AW.sregL [(0, none), (1, none), (2, none), (3, none), (4, none), (5, none), (6, none)] (by kernel_rfl) ?_
    refine l_ds 68 (.one (.ref 11 1 0 0)) ?_
    refine l_ds 69 (.one (.d (.int .u8 x2755.parent))) ?_
    refine l_ds 70 (.one (.d (.int .i64 (w64 x2755.parent)))) ?_
    refine l_ds 71 (.one (.d (.int .i64 i_69))) ?_
    refine l_ds 72 (.one (.d (.int .i64 (w64 (i_69 + 1))))) ?_
    obtain ⟨h58, h⟩ := h
    refine l_spec (some 73) (.bin .rem (.t 70) (.t 72)) (.one (.d (.int .i64 (Int.tmod (w64 x2755.parent) (w64 (i_69 + 1))))), []) (by kernel_rfl) (detA_none (d_rem (w64 x2755.parent) (w64 (i_69 + 1)) (by kernel_rfl) (by kernel_rfl) h58)) ?_
    refine l_ds 13 (.one (.d (.int .i64 (Int.tmod (w64 x2755.parent) (w64 (i_69 + 1)))))) ?_
    refine l_nil ?_
    refine AW.sregL [(0, none), (1, none), (2, none)] (by kernel_rfl) ?_
    refine l_ds 74 (.one (.d (.int .i64 (Int.tmod (w64 x2755.parent) (w64 (i_69 + 1)))))) ?_
    refine l_ds 75 (.one (.d (.int .i64 i_69))) ?_
    refine l_ds 76 (.one (.d (.bool (decide ((Int.tmod (w64 x2755.parent) (w64 (i_69 + 1))) < i_69))))) ?_
    refine l_nil ?_
    refine AW.cond' (by kernel_rfl) h (fun h => ?_) (fun h => ?_)
    · refine AW.regL [(0, none), (1, none), (2, none), (3, none)] (by kernel_rfl) ?_
      refine l_ds 77 (.one (.d (.int .i64 (Int.tmod (w64 x2755.parent) (w64 (i_69 + 1)))))) ?_
      refine l_ds 78 (.one (.d (.int .i64 (w64 ((Int.tmod (w64 x2755.parent) (w64 (i_69 + 1))) + 1))))) ?_
      refine l_ds 79 (.one (.ref 12 1 0 2)) ?_
      refine l_det none (.tup [], [(12, 1, .row true 58 14 [[.d (.int .i64 r2762), .d (.int .i64 (w64 (i_69 + 1))), .d (.int .i64 (w64 ((Int.tmod (w64 x2755.parent) (w64 (i_69 + 1))) + 1))), .d (.int .i64 0), .d (.int .i64 (w64 (1 + (w64 (Int.tmod x2755.clock 4))))), .d (.int .i64 r2763), .d (.str x2765), .d (.str x2767), .d (.str x2769), .d (.int .i64 x2760), .d (.int .i64 x2761), .d (.bool x2755.fail), .nils, .nils]])]) (by kernel_rfl) ?_
      refine l_nil ?_
      refine q_fall ?_
      exact Lab.m (w64 ((Int.tmod (w64 x2755.parent) (w64 (i_69 + 1))) + 1)) [(200001, some 10), (200002, some 11), (200003, some 12)] h
    · refine AW.sregL [(0, none), (1, none)] (by kernel_rfl) ?_
      refine l_ds 80 (.one (.d (.int .i64 i_69))) ?_
      refine l_ds 81 (.one (.d (.bool (decide (i_69 > 0))))) ?_
      refine l_nil ?_
      refine AW.cond' (by kernel_rfl) h (fun h => ?_) (fun h => ?_)
      · refine AW.regL [(0, none), (1, none)] (by kernel_rfl) ?_
        refine l_ds 82 (.one (.ref 12 1 0 2)) ?_
        refine l_det none (.tup [], [(12, 1, .row true 58 14 [[.d (.int .i64 r2762), .d (.int .i64 (w64 (i_69 + 1))), .d (.int .i64 100), .d (.int .i64 0), .d (.int .i64 (w64 (1 + (w64 (Int.tmod x2755.clock 4))))), .d (.int .i64 r2763), .d (.str x2765), .d (.str x2767), .d (.str x2769), .d (.int .i64 x2760), .d (.int .i64 x2761), .d (.bool x2755.fail), .nils, .nils]])]) (by kernel_rfl) ?_
        refine l_nil ?_
        refine q_fall ?_
        exact Lab.m 100 [(200001, some 10), (200002, some 11), (200003, some 12)] h
      · refine AW.skip ?_
        refine q_fall ?_
        exact Lab.m 0 [(200001, some 10), (200002, some 11), (200003, some 12)] h
  · rintro v2770 h
    have h : J69_1 x2755 i_69 start_69 K r2762 r2763 x2765 x2767 x2769 x2760 x2761 v2770 := h
    unfold J69_1 at h
    refine AW.seqL (S := (List TRef)) (fun s => (fun (v2779 : List TRef) => [(10, .one (.ref 200001 0 0 0)), (11, .one (.ref 200002 0 0 0)), (12, .one (.ref 200003 0 0 0))]) s) (fun s => (fun (v2779 : List TRef) => [(200001, .expl true 58 14 [[.d (.int .i64 0), .d (.int .i64 0), .d (.int .i64 0), .d (.int .i64 0), .d (.int .i64 0), .d (.int .i64 0), .d (.str (⟨#[]⟩ : ByteArray)), .d (.str (⟨#[]⟩ : ByteArray)), .d (.str (⟨#[]⟩ : ByteArray)), .d (.int .i64 0), .d (.int .i64 0), .d (.bool false), .nils, .nils]]), (200002, .expl true 153 11 [[.d (.int .u8 x2755.parent), .d (.int .u8 x2755.clock), .d (.int .u8 x2755.kind), .d (.int .u8 x2755.service), .d (.int .u8 x2755.version), .d (.int .u8 x2755.operation), .d (.int .u8 x2755.wait), .d (.int .u8 x2755.long), .d (.int .u8 x2755.link), .d (.int .u8 x2755.tag), .d (.bool x2755.fail)]]), (200003, .expl true 58 14 [[.d (.int .i64 r2762), .d (.int .i64 (w64 (i_69 + 1))), .d (.int .i64 v2770), .d (.int .i64 0), .d (.int .i64 (w64 (1 + (w64 (Int.tmod x2755.clock 4))))), .d (.int .i64 r2763), .d (.str x2765), .d (.str x2767), .d (.str x2769), .d (.int .i64 x2760), .d (.int .i64 x2761), .d (.bool x2755.fail), .nils, .view 200004 0 0 ((List.map TRef.enc v2779).length)]]), (200004, .pure true 146 2 (List.map TRef.enc v2779))]) s) (fun s : (List TRef) => J69_2 x2755 K r2762 i_69 v2770 r2763 x2765 x2767 x2769 x2760 x2761 s) ?_ ?_
    · refine AW.sregL [(0, none), (1, none), (2, none), (3, none), (4, none)] (by kernel_rfl) ?_
      refine l_ds 83 (.one (.ref 200002 0 0 8)) ?_
      refine l_ds 84 (.one (.d (.int .u8 x2755.link))) ?_
      refine l_ds 85 (.one (.d (.int .u8 (Int.tmod x2755.link 16)))) ?_
      refine l_ds 86 (.one (.d (.int .i64 (w64 (Int.tmod x2755.link 16))))) ?_
      refine l_ds 14 (.one (.d (.int .i64 (w64 (Int.tmod x2755.link 16))))) ?_
      refine l_nil ?_
      refine AW.seqL (S := Bool) (fun s => (fun (v2786 : Bool) => [(10, .one (.ref 200001 0 0 0)), (11, .one (.ref 200002 0 0 0)), (12, .one (.ref 200003 0 0 0)), (14, .one (.d (.int .i64 (w64 (Int.tmod x2755.link 16))))), (100, .one (.d (.bool v2786)))]) s) (fun s => (fun (v2786 : Bool) => [(200001, .expl true 58 14 [[.d (.int .i64 0), .d (.int .i64 0), .d (.int .i64 0), .d (.int .i64 0), .d (.int .i64 0), .d (.int .i64 0), .d (.str (⟨#[]⟩ : ByteArray)), .d (.str (⟨#[]⟩ : ByteArray)), .d (.str (⟨#[]⟩ : ByteArray)), .d (.int .i64 0), .d (.int .i64 0), .d (.bool false), .nils, .nils]]), (200002, .expl true 153 11 [[.d (.int .u8 x2755.parent), .d (.int .u8 x2755.clock), .d (.int .u8 x2755.kind), .d (.int .u8 x2755.service), .d (.int .u8 x2755.version), .d (.int .u8 x2755.operation), .d (.int .u8 x2755.wait), .d (.int .u8 x2755.long), .d (.int .u8 x2755.link), .d (.int .u8 x2755.tag), .d (.bool x2755.fail)]]), (200003, .expl true 58 14 [[.d (.int .i64 r2762), .d (.int .i64 (w64 (i_69 + 1))), .d (.int .i64 v2770), .d (.int .i64 0), .d (.int .i64 (w64 (1 + (w64 (Int.tmod x2755.clock 4))))), .d (.int .i64 r2763), .d (.str x2765), .d (.str x2767), .d (.str x2769), .d (.int .i64 x2760), .d (.int .i64 x2761), .d (.bool x2755.fail), .nils, .nils]])]) s) (fun s : Bool => J69_3 x2755 K r2762 i_69 v2770 r2763 x2765 x2767 x2769 x2760 x2761 s) ?_ ?_
      · refine AW.regdL follows_mixed [[], [], [0, 1], [0, 1, 2], [0, 1, 2, 3], [0, 1, 2, 3], [0, 1, 2, 3, 4, 5], [0, 1, 2, 3, 4, 5, 6], [0, 1, 2, 3], [0, 1, 2, 3], [0, 1, 2, 3, 8, 9], [0, 1, 2, 3, 8, 9, 10], [0, 1, 2, 3, 4, 5, 6, 7, 8, 9, 10, 11], [0, 1, 2, 3, 4, 5, 6, 7, 8, 9, 10, 11, 12]] [(0, none), (1, none), (2, none), (3, none), (4, none), (5, none), (6, none), (7, none), (8, none), (9, none), (10, none), (11, none), (12, none), (13, none)] (by kernel_rfl) ?_
        refine l_ds 87 (.one (.d (.int .i64 (w64 (Int.tmod x2755.link 16))))) ?_
        refine l_ds 88 (.one (.d (.int .i64 i_69))) ?_
        refine l_ds 89 (.one (.d (.bool (decide ((w64 (Int.tmod x2755.link 16)) < i_69))))) ?_
        refine l_ds 90 (.one (.d (.bool (decide ((w64 (Int.tmod x2755.link 16)) < i_69))))) ?_
        refine l_split (s := 90) (by kernel_rfl) h (fun h => ?_) (fun h => ?_)
        · refine l_ds 91 (.one (.d (.sl (List.map (eInt .i64) start_69)))) ?_
          refine l_ds 92 (.one (.d (.int .i64 (w64 (Int.tmod x2755.link 16))))) ?_
          obtain ⟨h55, x2787, h56, h⟩ := h
          refine l_spec (some 93) (.iad 1 (.t 91) (.t 92)) (.one (.d (.ptr [.int .i64 x2787])), []) (by kernel_rfl) (detA_none (d_iad_sl (enc := (eInt .i64)) (k := .i64) start_69 x2787 (by kernel_rfl) (by kernel_rfl) h55 h56 rfl)) ?_
          refine l_ds 94 (.one (.d (.int .i64 x2787))) ?_
          refine l_ds 95 (.one (.d (.sl (List.map (eInt .i64) start_69)))) ?_
          refine l_ds 96 (.one (.d (.int .i64 i_69))) ?_
          refine l_spec (some 97) (.iad 1 (.t 95) (.t 96)) (.one (.d (.ptr [.int .i64 x2760])), []) (by kernel_rfl) (detA_none (d_iad_sl (enc := (eInt .i64)) (k := .i64) start_69 x2760 (by kernel_rfl) (by kernel_rfl) h15 h16 rfl)) ?_
          refine l_ds 98 (.one (.d (.int .i64 x2760))) ?_
          refine l_ds 99 (.one (.d (.bool (decide (x2787 ≤ x2760))))) ?_
          refine l_ds 100 (.one (.d (.bool (decide (x2787 ≤ x2760))))) ?_
          refine l_nil ?_
          refine q_fall ?_
          exact Lab.m (decide (x2787 ≤ x2760)) [(200001, some 200001), (200002, some 200002), (200003, some 200003)] h
        · refine l_ds 91 (.tup []) ?_
          refine l_ds 92 (.tup []) ?_
          refine l_ds 93 (.tup []) ?_
          refine l_ds 94 (.tup []) ?_
          refine l_ds 95 (.tup []) ?_
          refine l_ds 96 (.tup []) ?_
          refine l_ds 97 (.tup []) ?_
          refine l_ds 98 (.tup []) ?_
          refine l_ds 99 (.tup []) ?_
          refine l_ds 100 (.one (.d (.bool false))) ?_
          refine l_nil ?_
          refine q_fall ?_
          exact Lab.m false [(200001, some 200001), (200002, some 200002), (200003, some 200003)] h
      · rintro v2786 h
        have h : J69_3 x2755 K r2762 i_69 v2770 r2763 x2765 x2767 x2769 x2760 x2761 v2786 := h
        unfold J69_3 at h
        refine AW.cond' (by kernel_rfl) h (fun h => ?_) (fun h => ?_)
        · refine AW.regL [(0, none), (1, none), (2, none), (3, none), (4, none), (5, none), (6, none), (7, none)] (by kernel_rfl) ?_
          refine l_ds 101 (.one (.ref 200003 0 0 0)) ?_
          refine l_ds 102 (.one (.d (.int .i64 r2762))) ?_
          refine l_ds 103 (.one (.d (.int .i64 (w64 (Int.tmod x2755.link 16))))) ?_
          refine l_ds 104 (.one (.d (.int .i64 (w64 ((w64 (Int.tmod x2755.link 16)) + 1))))) ?_
          refine l_ds 105 (.agg [.d (.int .i64 r2762), .d (.int .i64 (w64 ((w64 (Int.tmod x2755.link 16)) + 1)))]) ?_
          refine l_det (some 106) (.one (.view 106 1 0 1), [(106, 1, .row true 146 2 [[.d (.int .i64 r2762), .d (.int .i64 (w64 ((w64 (Int.tmod x2755.link 16)) + 1)))]])]) (by kernel_rfl) ?_
          refine l_ds 107 (.one (.ref 200003 0 0 13)) ?_
          refine l_det none (.tup [], [(200003, 0, .row true 58 14 [[.d (.int .i64 r2762), .d (.int .i64 (w64 (i_69 + 1))), .d (.int .i64 v2770), .d (.int .i64 0), .d (.int .i64 (w64 (1 + (w64 (Int.tmod x2755.clock 4))))), .d (.int .i64 r2763), .d (.str x2765), .d (.str x2767), .d (.str x2769), .d (.int .i64 x2760), .d (.int .i64 x2761), .d (.bool x2755.fail), .nils, .view 106 1 0 1]])]) (by kernel_rfl) ?_
          refine l_nil ?_
          refine q_fall ?_
          exact Lab.m [(TRef.mk r2762 (w64 ((w64 (Int.tmod x2755.link 16)) + 1)))] [(200001, some 200001), (200002, some 200002), (200003, some 200003), (200004, some 106)] h
        · refine AW.skip ?_
          refine q_fall ?_
          exact Lab.m [] [(200001, some 200001), (200002, some 200002), (200003, some 200003), (200004, none)] h
    · rintro v2779 h
      have h : J69_2 x2755 K r2762 i_69 v2770 r2763 x2765 x2767 x2769 x2760 x2761 v2779 := h
      unfold J69_2 at h
      refine AW.sregL [(0, none), (1, none), (2, none), (3, none)] (by kernel_rfl) ?_
      refine l_ds 108 (.agg [.d (.int .u8 x2755.parent), .d (.int .u8 x2755.clock), .d (.int .u8 x2755.kind), .d (.int .u8 x2755.service), .d (.int .u8 x2755.version), .d (.int .u8 x2755.operation), .d (.int .u8 x2755.wait), .d (.int .u8 x2755.long), .d (.int .u8 x2755.link), .d (.int .u8 x2755.tag), .d (.bool x2755.fail)]) ?_
      refine l_call ok84 en84 (some 109) [.agg [.d (.int .u8 x2755.parent), .d (.int .u8 x2755.clock), .d (.int .u8 x2755.kind), .d (.int .u8 x2755.service), .d (.int .u8 x2755.version), .d (.int .u8 x2755.operation), .d (.int .u8 x2755.wait), .d (.int .u8 x2755.long), .d (.int .u8 x2755.link), .d (.int .u8 x2755.tag), .d (.bool x2755.fail)]] [false] [.agg (List.map RC.d [.int .u8 x2755.parent, .int .u8 x2755.clock, .int .u8 x2755.kind, .int .u8 x2755.service, .int .u8 x2755.version, .int .u8 x2755.operation, .int .u8 x2755.wait, .int .u8 x2755.long, .int .u8 x2755.link, .int .u8 x2755.tag, .bool x2755.fail])] [] (by kernel_rfl) ⟨by kernel_rfl, by kernel_rfl⟩ (by kernel_rfl) (by kernel_rfl) (by kernel_rfl) (cl84 x2755 h) ?_
      rintro hR _ _ ⟨r2783, rfl, rfl, h⟩
      refine ⟨false, (.one (.d (.sl (List.map TAttr.enc r2783))), []), (fun hz => (by cases hz)), (ret_R hR (by kernel_rfl)), ?_⟩
      refine l_ds 110 (.one (.ref 200003 0 0 12)) ?_
      refine l_det none (.tup [], [(200003, 0, .row true 58 14 [[.d (.int .i64 r2762), .d (.int .i64 (w64 (i_69 + 1))), .d (.int .i64 v2770), .d (.int .i64 0), .d (.int .i64 (w64 (1 + (w64 (Int.tmod x2755.clock 4))))), .d (.int .i64 r2763), .d (.str x2765), .d (.str x2767), .d (.str x2769), .d (.int .i64 x2760), .d (.int .i64 x2761), .d (.bool x2755.fail), .d (.sl (List.map TAttr.enc r2783)), .view 200004 0 0 ((List.map TRef.enc v2779).length)]])]) (by kernel_rfl) ?_
      refine l_nil ?_
      refine AW.sregL [(0, none), (1, none)] (by kernel_rfl) ?_
      refine l_ds 111 (.agg [.d (.int .i64 r2762), .d (.int .i64 (w64 (i_69 + 1))), .d (.int .i64 v2770), .d (.int .i64 0), .d (.int .i64 (w64 (1 + (w64 (Int.tmod x2755.clock 4))))), .d (.int .i64 r2763), .d (.str x2765), .d (.str x2767), .d (.str x2769), .d (.int .i64 x2760), .d (.int .i64 x2761), .d (.bool x2755.fail), .d (.sl (List.map TAttr.enc r2783)), .view 200004 0 0 ((List.map TRef.enc v2779).length)]) ?_
      refine l_det none (.tup [], [(200001, 0, .row true 58 14 [[.d (.int .i64 r2762), .d (.int .i64 (w64 (i_69 + 1))), .d (.int .i64 v2770), .d (.int .i64 0), .d (.int .i64 (w64 (1 + (w64 (Int.tmod x2755.clock 4))))), .d (.int .i64 r2763), .d (.str x2765), .d (.str x2767), .d (.str x2769), .d (.int .i64 x2760), .d (.int .i64 x2761), .d (.bool x2755.fail), .d (.sl (List.map TAttr.enc r2783)), .view 200004 0 0 ((List.map TRef.enc v2779).length)]])]) (by kernel_rfl) ?_
      refine l_nil ?_
      refine AW.ret ?_
      exact q_end [.agg [.d (.int .i64 r2762), .d (.int .i64 (w64 (i_69 + 1))), .d (.int .i64 v2770), .d (.int .i64 0), .d (.int .i64 (w64 (1 + (w64 (Int.tmod x2755.clock 4))))), .d (.int .i64 r2763), .d (.str x2765), .d (.str x2767), .d (.str x2769), .d (.int .i64 x2760), .d (.int .i64 x2761), .d (.bool x2755.fail), .d (.sl (List.map TAttr.enc r2783)), .view 200004 0 0 ((List.map TRef.enc v2779).length)]] [false] [.agg (List.map RC.d [.int .i64 r2762, .int .i64 (w64 (i_69 + 1)), .int .i64 v2770, .int .i64 0, .int .i64 (w64 (1 + (w64 (Int.tmod x2755.clock 4)))), .int .i64 r2763, .str x2765, .str x2767, .str x2769, .int .i64 x2760, .int .i64 x2761, .bool x2755.fail, .sl (List.map TAttr.enc r2783), .sl (List.map TRef.enc v2779)])] [] [200004] (by kernel_rfl) (ps_plain (pv_agg (pc_cons pf_d (pc_cons pf_d (pc_cons pf_d (pc_cons pf_d (pc_cons pf_d (pc_cons pf_d (pc_cons pf_d (pc_cons pf_d (pc_cons pf_d (pc_cons pf_d (pc_cons pf_d (pc_cons pf_d (pc_cons pf_d (pc_cons (pf_view (E := 146) (sz := 2) (l := true) (List.map TRef.enc v2779) (by kernel_rfl) (by kernel_rfl) rfl) pc_nil))))))))))))))) ps_nil) (by kernel_rfl) (by kernel_rfl) (by kernel_rfl) (by kernel_rfl) (Eq.mp (by kernel_rfl) (hK (TSpan.mk r2762 (w64 (i_69 + 1)) v2770 0 (w64 (1 + (w64 (Int.tmod x2755.clock 4)))) r2763 x2765 x2767 x2769 x2760 x2761 x2755.fail r2783 v2779) h)) (.inr rfl)
def r70_0 : List AR := [⟨some 2, .box 27 true 7 (.t 0), [], none⟩,
  ⟨some 4, .mov (.c (.int .i64 0)), [], none⟩]
def r70_1 : List AR := [⟨some 5, .mov (.t 1), [], none⟩,
  ⟨some 6, .cvi .u64 (.t 5), [0], none⟩,
  ⟨some 7, .bin .add (.t 6) (.c (.int .u64 3)), [1], none⟩,
  ⟨some 8, .bin .rem (.t 7) (.c (.int .u64 4)), [2], none⟩,
  ⟨some 9, .fad (.t 2) 1, [], none⟩,
  ⟨some 10, .iaa 4 1 (.t 9) (.t 8), [4, 3], none⟩,
  ⟨some 11, .ld false 1 (.t 10), [5], none⟩,
  ⟨some 12, .cvi .i64 (.t 11), [6], none⟩,
  ⟨some 13, .bin .rem (.t 12) (.c (.int .i64 21)), [7], none⟩,
  ⟨some 4, .mov (.t 13), [8, 0, 1, 2, 3, 4, 5, 6, 7, 8], none⟩]
def c70 : ACode := .seq (.reg r70_0 false) (.seq (.reg r70_1 false) (.ret))
theorem body70 : Try.f70.body.map (comp Try.prog 14) = some c70 := by kernel_rfl
theorem res70 : allSome (Try.f70.results.toList.map (compRes Try.prog)) = some [.s 4] := by kernel_rfl
theorem cok70 {S : FSpec} (h : ∀ args K, S args K → args.all argOk = true ∧ args.length ≤ 14 ∧ AW Try.prog 14 (some ownP) c70 (initS args) (retPost [.s 4] args K)) : COK Try.prog 70 S := of_body Try.func70 Try.ntmps70 body70 res70 h

/-- sleuth/sleuthlaw13.Offset -/
def W70 (s_70 : TStory) (clock_70 : Int) (K : Int → Prop) : Prop :=
  Idx ([s_70.offsets.e0, s_70.offsets.e1, s_70.offsets.e2, s_70.offsets.e3] : List Int) (Int.tmod (IntKind.wrap .u64 ((IntKind.wrap .u64 clock_70) + 3)) 4) fun x2791 => K (Int.tmod (w64 x2791) 21)

def S70 : FSpec := fun args K => ∃ (s_70 : TStory), ∃ (clock_70 : Int), ∃ (Kr : Int → Prop), args = [.agg (List.map RC.d (TStory.enc s_70)), .one (.d (.int .i64 clock_70))] ∧ W70 s_70 clock_70 Kr ∧ ∀ r, Kr r → K (.one (.d (.int .i64 r))) []

theorem en70 : enters Try.prog 70 = true := by unfold enters; rw [Try.func70]; rfl
theorem cl70 (s_70 : TStory) (clock_70 : Int) {Kr : Int → Prop} (h : W70 s_70 clock_70 Kr) : S70 [.agg (List.map RC.d (TStory.enc s_70)), .one (.d (.int .i64 clock_70))] (fun rv rows => ∃ r, rv = (.one (.d (.int .i64 r))) ∧ rows = [] ∧ Kr r) := ⟨s_70, clock_70, Kr, rfl, h, fun r hr => ⟨r, rfl, rfl, hr⟩⟩

theorem ok70 : COK Try.prog 70 S70 := by
  refine cok70 fun args K0 hS => ?_
  obtain ⟨s_70, clock_70, K, rfl, h, hK⟩ := hS
  refine ⟨by kernel_rfl, by simp, ?_⟩
  unfold W70 at h
  refine AW.sregL [(0, none), (1, none)] (by kernel_rfl) ?_
  refine l_det (some 2) (.one (.ref 2 1 0 0), [(2, 1, .row true 27 7 [[.d (.sl (List.map TTree.enc s_70.trees)), .d (.int .i8 s_70.offsets.e0), .d (.int .i8 s_70.offsets.e1), .d (.int .i8 s_70.offsets.e2), .d (.int .i8 s_70.offsets.e3), .d (.sl (List.map TSync.enc s_70.syncs)), .d (.int .u8 s_70.wrong)]])]) (by kernel_rfl) ?_
  refine l_ds 4 (.one (.d (.int .i64 0))) ?_
  refine l_nil ?_
  refine AW.sregL [(0, none), (1, none), (2, none), (3, none), (4, none), (5, none), (6, none), (7, none), (8, none), (9, none)] (by kernel_rfl) ?_
  refine l_ds 5 (.one (.d (.int .i64 clock_70))) ?_
  refine l_ds 6 (.one (.d (.int .u64 (IntKind.wrap .u64 clock_70)))) ?_
  refine l_ds 7 (.one (.d (.int .u64 (IntKind.wrap .u64 ((IntKind.wrap .u64 clock_70) + 3))))) ?_
  refine l_ds 8 (.one (.d (.int .u64 (Int.tmod (IntKind.wrap .u64 ((IntKind.wrap .u64 clock_70) + 3)) 4)))) ?_
  refine l_ds 9 (.one (.ref 2 1 0 1)) ?_
  obtain ⟨h3, x2791, h4, h⟩ := h
  refine l_spec (some 10) (.iaa 4 1 (.t 9) (.t 8)) (.one (.ref 2 1 0 (1 + (Int.tmod (IntKind.wrap .u64 ((IntKind.wrap .u64 clock_70) + 3)) 4).toNat * 1)), []) (by kernel_rfl) (detA_none (d_iaa_ref (k := .u64) [s_70.offsets.e0, s_70.offsets.e1, s_70.offsets.e2, s_70.offsets.e3] (by kernel_rfl) (by kernel_rfl) h3 h4 (by kernel_rfl))) ?_
  refine l_spec (some 11) (.ld false 1 (.t 10)) (.one (.d (.int .i8 x2791)), []) (by kernel_rfl) (detA_none (d_ld_arr (o := 2) (g := 1) (i := 0) (off := 1) (kk := (Int.tmod (IntKind.wrap .u64 ((IntKind.wrap .u64 clock_70) + 3)) 4).toNat) (E := 27) (sz := 7) (l := true) (rows := [[.d (.sl (List.map TTree.enc s_70.trees)), .d (.int .i8 s_70.offsets.e0), .d (.int .i8 s_70.offsets.e1), .d (.int .i8 s_70.offsets.e2), .d (.int .i8 s_70.offsets.e3), .d (.sl (List.map TSync.enc s_70.syncs)), .d (.int .u8 s_70.wrong)]]) (cs := [.d (.sl (List.map TTree.enc s_70.trees)), .d (.int .i8 s_70.offsets.e0), .d (.int .i8 s_70.offsets.e1), .d (.int .i8 s_70.offsets.e2), .d (.int .i8 s_70.offsets.e3), .d (.sl (List.map TSync.enc s_70.syncs)), .d (.int .u8 s_70.wrong)]) (rest := [.d (.sl (List.map TSync.enc s_70.syncs)), .d (.int .u8 s_70.wrong)]) [s_70.offsets.e0, s_70.offsets.e1, s_70.offsets.e2, s_70.offsets.e3] x2791 (by kernel_rfl) (by kernel_rfl) (by kernel_rfl) (by kernel_rfl) (by kernel_rfl) h4)) ?_
  refine l_ds 12 (.one (.d (.int .i64 (w64 x2791)))) ?_
  refine l_ds 13 (.one (.d (.int .i64 (Int.tmod (w64 x2791) 21)))) ?_
  refine l_ds 4 (.one (.d (.int .i64 (Int.tmod (w64 x2791) 21)))) ?_
  refine l_nil ?_
  refine AW.ret ?_
  exact q_end [.one (.d (.int .i64 (Int.tmod (w64 x2791) 21)))] [false] [.one (.d (.int .i64 (Int.tmod (w64 x2791) 21)))] [] [] (by kernel_rfl) ⟨by kernel_rfl, by kernel_rfl⟩ (by kernel_rfl) (by kernel_rfl) (by kernel_rfl) (by kernel_rfl) (Eq.mp (by kernel_rfl) (hK (Int.tmod (w64 x2791) 21) h)) (.inr rfl)
def r42_0 : List AR := [⟨some 3, .box 27 true 7 (.t 0), [], none⟩,
  ⟨some 6, .mov (.c .nils), [], none⟩]
def r42_1 : List AR := [⟨some 7, .mov (.c .nils), [], none⟩]
def r42_2 : List AR := [⟨some 14, .fad (.t 3) 0, [], none⟩,
  ⟨some 15, .ld false 1 (.t 14), [0], none⟩,
  ⟨some 16, .mov (.t 1), [], none⟩,
  ⟨some 17, .iad 3 (.t 15) (.t 16), [1, 2], none⟩,
  ⟨some 18, .ld true 3 (.t 17), [3], none⟩,
  ⟨some 19, .call 68 [.t 18], [4], none⟩,
  ⟨some 13, .mov (.t 19), [5], none⟩,
  ⟨some 20, .ext (.t 13) 0, [6], none⟩,
  ⟨some 21, .ext (.t 13) 1, [6], none⟩,
  ⟨some 8, .mov (.t 20), [7, 5, 0, 1, 2, 3, 4, 5, 6, 7], none⟩,
  ⟨some 9, .mov (.t 21), [8, 9, 0, 1, 2, 3, 4, 5, 6, 7, 8, 9], none⟩]
def r42_3 : List AR := [⟨some 10, .mov (.c (.int .i64 0)), [], none⟩]
def r42_4 : List AR := [⟨some 22, .mov (.t 10), [], none⟩,
  ⟨some 23, .fad (.t 3) 0, [], none⟩,
  ⟨some 24, .ld false 1 (.t 23), [1], none⟩,
  ⟨some 25, .mov (.t 1), [], none⟩,
  ⟨some 26, .iad 3 (.t 24) (.t 25), [2, 3], none⟩,
  ⟨some 27, .fad (.t 26) 2, [4], none⟩,
  ⟨some 28, .ld false 1 (.t 27), [5], none⟩,
  ⟨some 29, .lens (.t 28), [6], none⟩,
  ⟨some 30, .bin .lss (.t 22) (.t 29), [0, 7], none⟩]
def r42_5 : List AR := [⟨some 33, .ld true 7 (.t 3), [], none⟩,
  ⟨some 34, .mov (.t 1), [], none⟩,
  ⟨some 35, .mov (.t 10), [], none⟩,
  ⟨some 36, .mov (.t 8), [], none⟩,
  ⟨some 37, .mov (.t 9), [], none⟩,
  ⟨some 38, .call 69 [.t 33, .t 34, .t 35, .t 36, .t 37], [0, 1, 2, 3, 4], none⟩,
  ⟨some 11, .alloc 58 true [.int .i64 0, .int .i64 0, .int .i64 0, .int .i64 0, .int .i64 0, .int .i64 0, .str ⟨#[]⟩, .str ⟨#[]⟩, .str ⟨#[]⟩, .int .i64 0, .int .i64 0, .bool false, .nils, .nils], [], none⟩,
  ⟨none, .st 14 (.t 11) (.t 38), [6, 5, 5, 0, 1, 2, 3, 4, 5, 6], none⟩]
def r42_6 : List AR := [⟨some 39, .mov (.t 2), [], none⟩,
  ⟨some 40, .un .not (.t 39), [0], none⟩]
def r42_7 : List AR := [⟨some 41, .ld true 7 (.t 3), [], none⟩,
  ⟨some 42, .fad (.t 11) 4, [], none⟩,
  ⟨some 43, .ld false 1 (.t 42), [1], none⟩,
  ⟨some 44, .call 70 [.t 41, .t 43], [0, 2], none⟩,
  ⟨some 12, .mov (.t 44), [3, 3, 0, 1, 2, 3], none⟩]
def r42_8 : List AR := [⟨some 45, .fad (.t 3) 6, [], none⟩,
  ⟨some 46, .ld false 1 (.t 45), [0], none⟩,
  ⟨some 47, .bin .gtr (.t 46) (.c (.int .u8 0)), [1], none⟩,
  ⟨some 48, .mov (.t 47), [2], none⟩,
  ⟨some 49, .fad (.t 3) 6, [3], some (48, true)⟩,
  ⟨some 50, .ld false 1 (.t 49), [4, 3], some (48, true)⟩,
  ⟨some 51, .cvi .i64 (.t 50), [5, 3], some (48, true)⟩,
  ⟨some 52, .bin .rem (.t 51) (.c (.int .i64 8)), [6, 3], some (48, true)⟩,
  ⟨some 53, .mov (.t 10), [3], some (48, true)⟩,
  ⟨some 54, .bin .eql (.t 52) (.t 53), [7, 8, 3], some (48, true)⟩,
  ⟨some 55, .pick (.t 48) (.t 54) (.c (.bool false)), [3, 9], none⟩,
  ⟨some 56, .mov (.t 55), [10, 3], none⟩,
  ⟨some 57, .fad (.t 3) 6, [11], some (56, true)⟩,
  ⟨some 58, .ld false 1 (.t 57), [12, 11], some (56, true)⟩,
  ⟨some 59, .cvi .i64 (.t 58), [13, 11], some (56, true)⟩,
  ⟨some 60, .bin .quo (.t 59) (.c (.int .i64 8)), [14, 11], some (56, true)⟩,
  ⟨some 61, .bin .rem (.t 60) (.c (.int .i64 3)), [15, 11], some (56, true)⟩,
  ⟨some 62, .mov (.t 1), [11], some (56, true)⟩,
  ⟨some 63, .bin .eql (.t 61) (.t 62), [16, 17, 11], some (56, true)⟩,
  ⟨some 64, .pick (.t 56) (.t 63) (.c (.bool false)), [11, 18], none⟩]
def r42_9 : List AR := [⟨some 65, .mov (.t 12), [], none⟩,
  ⟨some 66, .bin .add (.t 65) (.c (.int .i64 500)), [0], none⟩,
  ⟨some 12, .mov (.t 66), [1, 0, 1], none⟩]
def r42_10 : List AR := [⟨some 67, .fad (.t 11) 9, [], none⟩,
  ⟨some 68, .ld false 1 (.t 67), [0], none⟩,
  ⟨some 69, .mov (.t 12), [], none⟩,
  ⟨some 70, .bin .add (.t 68) (.t 69), [1, 2], none⟩,
  ⟨some 71, .fad (.t 11) 10, [], none⟩,
  ⟨some 72, .ld false 1 (.t 71), [4], none⟩,
  ⟨some 73, .mov (.t 12), [], none⟩,
  ⟨some 74, .bin .add (.t 72) (.t 73), [5, 6], none⟩,
  ⟨some 75, .fad (.t 11) 9, [0, 1, 2, 3, 4, 5], none⟩,
  ⟨none, .st 1 (.t 75) (.t 70), [8, 3, 0, 1, 2, 3, 4, 5], none⟩,
  ⟨some 76, .fad (.t 11) 10, [0, 1, 2, 3, 4, 5, 6, 7, 8, 9], none⟩,
  ⟨none, .st 1 (.t 76) (.t 74), [10, 7, 9, 0, 1, 2, 3, 4, 5, 6, 7, 8, 9], none⟩]
def r42_11 : List AR := [⟨some 77, .mov (.t 7), [], none⟩,
  ⟨some 78, .ld true 14 (.t 11), [], none⟩,
  ⟨some 79, .bsl 58 14 1 [.int .i64 0, .int .i64 0, .int .i64 0, .int .i64 0, .int .i64 0, .int .i64 0, .str ⟨#[]⟩, .str ⟨#[]⟩, .str ⟨#[]⟩, .int .i64 0, .int .i64 0, .bool false, .nils, .nils] [(0, .t 78)], [1], none⟩,
  ⟨some 80, .app 58 14 168 [.int .i64 0, .int .i64 0, .int .i64 0, .int .i64 0, .int .i64 0, .int .i64 0, .str ⟨#[]⟩, .str ⟨#[]⟩, .str ⟨#[]⟩, .int .i64 0, .int .i64 0, .bool false, .nils, .nils] (.t 77) (.t 79), [0, 2], none⟩,
  ⟨some 7, .mov (.t 80), [3, 3, 0, 1, 2, 3], none⟩]
def r42_12 : List AR := [⟨some 31, .mov (.t 10), [], none⟩,
  ⟨some 32, .bin .add (.t 31) (.c (.int .i64 1)), [0], none⟩,
  ⟨some 10, .mov (.t 32), [1, 0, 1], none⟩]
def r42_13 : List AR := [⟨some 81, .mov (.t 7), [], none⟩,
  ⟨some 6, .mov (.t 81), [0, 0], none⟩]
def c42 : ACode := .seq (.reg r42_0 false) (.seq (.reg r42_1 false) (.seq (.reg r42_2 false) (.seq (.seq (.reg r42_3 false) (.blk 0 (.loop (.seq (.seq (.reg r42_4 false) (.cond (.t 30) (.skip) (.exit 0))) (.seq (.blk 1 (.seq (.reg r42_5 false) (.seq (.seq (.reg r42_6 false) (.cond (.t 40) (.seq (.reg r42_7 false) (.seq (.seq (.reg r42_8 false) (.cond (.t 64) (.reg r42_9 false) (.skip))) (.reg r42_10 false))) (.skip))) (.reg r42_11 false)))) (.reg r42_12 false)))))) (.seq (.reg r42_13 false) (.ret)))))
theorem body42 : Try.f42.body.map (comp Try.prog 82) = some c42 := by kernel_rfl
theorem res42 : allSome (Try.f42.results.toList.map (compRes Try.prog)) = some [.s 6] := by kernel_rfl
theorem cok42 {S : FSpec} (h : ∀ args K, S args K → args.all argOk = true ∧ args.length ≤ 82 ∧ AW Try.prog 82 (some ownP) c42 (initS args) (retPost [.s 6] args K)) : COK Try.prog 42 S := of_body Try.func42 Try.ntmps42 body42 res42 h

def J42_2 (v2969 : List TSpan) (r3039 : TSpan) (N3015 : ((List TSpan) × Int) → Prop) (v2970 : Int) (v3052 : Int) (v3053 : Int) : Prop :=
  Fits ((v2969 ++ [(TSpan.mk r3039.trace r3039.id r3039.parent r3039.revision r3039.clock r3039.kind r3039.service r3039.version r3039.operation v3052 v3053 r3039.error r3039.attrs r3039.links)]).length * 168) (N3015 ((v2969 ++ [(TSpan.mk r3039.trace r3039.id r3039.parent r3039.revision r3039.clock r3039.kind r3039.service r3039.version r3039.operation v3052 v3053 r3039.error r3039.attrs r3039.links)]), (w64 (v2970 + 1))))

def J42_3 (v2969 : List TSpan) (r3039 : TSpan) (N3015 : ((List TSpan) × Int) → Prop) (v2970 : Int) (v3058 : Int) : Prop :=
  J42_2 v2969 r3039 N3015 v2970 (w64 (r3039.start + v3058)) (w64 (r3039.end_ + v3058))

def J42_4 (v2969 : List TSpan) (r3039 : TSpan) (N3015 : ((List TSpan) × Int) → Prop) (v2970 : Int) (r3055 : Int) (v3059 : Bool) : Prop :=
  Cond v3059 (J42_3 v2969 r3039 N3015 v2970 (w64 (r3055 + 500))) (J42_3 v2969 r3039 N3015 v2970 r3055)

def L42_1 (x2750 : TTree) (s_42 : TStory) (k_42 : Int) (r2751 : ((List Int) × (List Int))) (truly_42 : Bool) (K : (List TSpan) → Prop) (v2969 : List TSpan) (v2970 : Int) (N3015 : ((List TSpan) × Int) → Prop) : Prop :=
  Cond (decide (v2970 < (x2750.calls.length : Int))) (W69 s_42 k_42 v2970 r2751.1 r2751.2 fun r3039 => Cond (!truly_42) (W70 s_42 r3039.clock fun r3055 => Cond (decide (s_42.wrong > 0)) (Cond (decide ((Int.tmod (w64 s_42.wrong) 8) = v2970)) (J42_4 v2969 r3039 N3015 v2970 r3055 (decide ((Int.tmod (w64 (Int.tdiv (w64 s_42.wrong) 8)) 3) = k_42))) (J42_4 v2969 r3039 N3015 v2970 r3055 false)) (J42_4 v2969 r3039 N3015 v2970 r3055 false)) (J42_2 v2969 r3039 N3015 v2970 r3039.start r3039.end_)) (K v2969)

/-- sleuth/sleuthlaw13.Trace -/
def W42 (s_42 : TStory) (k_42 : Int) (truly_42 : Bool) (K : (List TSpan) → Prop) : Prop :=
  Idx s_42.trees k_42 fun x2750 => W68 x2750 fun r2751 => LoopW (fun (s : ((List TSpan) × Int)) N3015 => L42_1 x2750 s_42 k_42 r2751 truly_42 K s.1 s.2 N3015) ([], 0)

def S42 : FSpec := fun args K => ∃ (s_42 : TStory), ∃ (k_42 : Int), ∃ (truly_42 : Bool), ∃ (Kr : (List TSpan) → Prop), args = [.agg (List.map RC.d (TStory.enc s_42)), .one (.d (.int .i64 k_42)), .one (.d (.bool truly_42))] ∧ W42 s_42 k_42 truly_42 Kr ∧ ∀ r, Kr r → K (.one (.d (.sl (List.map TSpan.enc r)))) []

theorem en42 : enters Try.prog 42 = true := by unfold enters; rw [Try.func42]; rfl
theorem cl42 (s_42 : TStory) (k_42 : Int) (truly_42 : Bool) {Kr : (List TSpan) → Prop} (h : W42 s_42 k_42 truly_42 Kr) : S42 [.agg (List.map RC.d (TStory.enc s_42)), .one (.d (.int .i64 k_42)), .one (.d (.bool truly_42))] (fun rv rows => ∃ r, rv = (.one (.d (.sl (List.map TSpan.enc r)))) ∧ rows = [] ∧ Kr r) := ⟨s_42, k_42, truly_42, Kr, rfl, h, fun r hr => ⟨r, rfl, rfl, hr⟩⟩

theorem ok42 : COK Try.prog 42 S42 := by
  refine cok42 fun args K0 hS => ?_
  obtain ⟨s_42, k_42, truly_42, K, rfl, h, hK⟩ := hS
  refine ⟨by kernel_rfl, by simp, ?_⟩
  unfold W42 at h
  refine AW.sregL [(0, none), (1, none)] (by kernel_rfl) ?_
  refine l_det (some 3) (.one (.ref 3 1 0 0), [(3, 1, .row true 27 7 [[.d (.sl (List.map TTree.enc s_42.trees)), .d (.int .i8 s_42.offsets.e0), .d (.int .i8 s_42.offsets.e1), .d (.int .i8 s_42.offsets.e2), .d (.int .i8 s_42.offsets.e3), .d (.sl (List.map TSync.enc s_42.syncs)), .d (.int .u8 s_42.wrong)]])]) (by kernel_rfl) ?_
  refine l_ds 6 (.one (.nils)) ?_
  refine l_nil ?_
  refine AW.sregL [(0, none)] (by kernel_rfl) ?_
  refine l_ds 7 (.one (.nils)) ?_
  refine l_nil ?_
  refine AW.sregL [(0, none), (1, none), (2, none), (3, none), (4, none), (5, none), (6, none), (7, none), (8, none), (9, none), (10, none)] (by kernel_rfl) ?_
  refine l_ds 14 (.one (.ref 3 1 0 0)) ?_
  refine l_ds 15 (.one (.d (.sl (List.map TTree.enc s_42.trees)))) ?_
  refine l_ds 16 (.one (.d (.int .i64 k_42))) ?_
  obtain ⟨h4, x2750, h5, h⟩ := h
  refine l_spec (some 17) (.iad 3 (.t 15) (.t 16)) (.one (.d (.ptr [.int .u8 x2750.slot, .int .u8 x2750.start, .sl (List.map TCall.enc x2750.calls)])), []) (by kernel_rfl) (detA_none (d_iad_sl (enc := TTree.enc) (k := .i64) s_42.trees x2750 (by kernel_rfl) (by kernel_rfl) h4 h5 rfl)) ?_
  refine l_ds 18 (.agg [.d (.int .u8 x2750.slot), .d (.int .u8 x2750.start), .d (.sl (List.map TCall.enc x2750.calls))]) ?_
  refine l_call ok68 en68 (some 19) [.agg [.d (.int .u8 x2750.slot), .d (.int .u8 x2750.start), .d (.sl (List.map TCall.enc x2750.calls))]] [false] [.agg (List.map RC.d [.int .u8 x2750.slot, .int .u8 x2750.start, .sl (List.map TCall.enc x2750.calls)])] [] (by kernel_rfl) ⟨by kernel_rfl, by kernel_rfl⟩ (by kernel_rfl) (by kernel_rfl) (by kernel_rfl) (cl68 x2750 h) ?_
  rintro hR _ _ ⟨r2751, rfl, rfl, h⟩
  refine ⟨false, (.tup [.one (.d (.sl (List.map (eInt .i64) r2751.1))), .one (.d (.sl (List.map (eInt .i64) r2751.2)))], []), (fun hz => (by cases hz)), (ret_R hR (by kernel_rfl)), ?_⟩
  refine l_ds 13 (.tup [.one (.d (.sl (List.map (eInt .i64) r2751.1))), .one (.d (.sl (List.map (eInt .i64) r2751.2)))]) ?_
  refine l_ds 20 (.one (.d (.sl (List.map (eInt .i64) r2751.1)))) ?_
  refine l_ds 21 (.one (.d (.sl (List.map (eInt .i64) r2751.2)))) ?_
  refine l_ds 8 (.one (.d (.sl (List.map (eInt .i64) r2751.1)))) ?_
  refine l_ds 9 (.one (.d (.sl (List.map (eInt .i64) r2751.2)))) ?_
  refine l_nil ?_
  refine AW.seq ?_
  refine AW.sregL [(0, none)] (by kernel_rfl) ?_
  refine l_ds 10 (.one (.d (.int .i64 0))) ?_
  refine l_nil ?_
  refine AW.blk ?_
  refine AW.loopL (S := ((List TSpan) × Int)) (fun s => (fun (v2969 : List TSpan) (v2970 : Int) => [(1, .one (.d (.int .i64 k_42))), (2, .one (.d (.bool truly_42))), (3, .one (.ref 200001 0 0 0)), (7, .one (.view 200002 0 0 ((List.map TSpan.enc v2969).length))), (8, .one (.d (.sl (List.map (eInt .i64) r2751.1)))), (9, .one (.d (.sl (List.map (eInt .i64) r2751.2)))), (10, .one (.d (.int .i64 v2970)))]) s.1 s.2) (fun s => (fun (v2969 : List TSpan) (v2970 : Int) => [(200001, .expl true 27 7 [[.d (.sl (List.map TTree.enc s_42.trees)), .d (.int .i8 s_42.offsets.e0), .d (.int .i8 s_42.offsets.e1), .d (.int .i8 s_42.offsets.e2), .d (.int .i8 s_42.offsets.e3), .d (.sl (List.map TSync.enc s_42.syncs)), .d (.int .u8 s_42.wrong)]]), (200002, .pure true 58 14 (List.map TSpan.enc v2969))]) s.1 s.2) (fun (s : ((List TSpan) × Int)) N3015 => L42_1 x2750 s_42 k_42 r2751 truly_42 K s.1 s.2 N3015) (N := fun s => LoopW (fun (s : ((List TSpan) × Int)) N3015 => L42_1 x2750 s_42 k_42 r2751 truly_42 K s.1 s.2 N3015) s) (Lab.m ([], 0) [(200001, some 3), (200002, none)] h) (fun _ h => h) ?_
  rintro ⟨v2969, v2970⟩ N3015 h
  have h : L42_1 x2750 s_42 k_42 r2751 truly_42 K v2969 v2970 N3015 := h
  unfold L42_1 at h
  refine AW.seq ?_
  refine AW.sregL [(0, none), (1, none), (2, none), (3, none), (4, none), (5, none), (6, none), (7, none), (8, none)] (by kernel_rfl) ?_
  refine l_ds 22 (.one (.d (.int .i64 v2970))) ?_
  refine l_ds 23 (.one (.ref 200001 0 0 0)) ?_
  refine l_ds 24 (.one (.d (.sl (List.map TTree.enc s_42.trees)))) ?_
  refine l_ds 25 (.one (.d (.int .i64 k_42))) ?_
  refine l_spec (some 26) (.iad 3 (.t 24) (.t 25)) (.one (.d (.ptr [.int .u8 x2750.slot, .int .u8 x2750.start, .sl (List.map TCall.enc x2750.calls)])), []) (by kernel_rfl) (detA_none (d_iad_sl (enc := TTree.enc) (k := .i64) s_42.trees x2750 (by kernel_rfl) (by kernel_rfl) h4 h5 rfl)) ?_
  refine l_ds 27 (.one (.d (.ptr [.sl (List.map TCall.enc x2750.calls)]))) ?_
  refine l_ds 28 (.one (.d (.sl (List.map TCall.enc x2750.calls)))) ?_
  refine l_spec (some 29) (.lens (.t 28)) (.one (.d (.int .i64 (x2750.calls.length : Int))), []) (by kernel_rfl) (detA_none (d_lens_sl (enc := TCall.enc) x2750.calls (by kernel_rfl))) ?_
  refine l_ds 30 (.one (.d (.bool (decide (v2970 < (x2750.calls.length : Int)))))) ?_
  refine l_nil ?_
  refine AW.cond' (by kernel_rfl) h (fun h => ?_) (fun h => ?_)
  · refine AW.skip ?_
    refine q_fall ?_
    refine AW.seq ?_
    refine AW.blk ?_
    refine AW.sregL [(0, none), (1, none), (2, none), (3, none), (4, none), (5, none), (6, none), (7, none)] (by kernel_rfl) ?_
    refine l_ds 33 (.agg [.d (.sl (List.map TTree.enc s_42.trees)), .d (.int .i8 s_42.offsets.e0), .d (.int .i8 s_42.offsets.e1), .d (.int .i8 s_42.offsets.e2), .d (.int .i8 s_42.offsets.e3), .d (.sl (List.map TSync.enc s_42.syncs)), .d (.int .u8 s_42.wrong)]) ?_
    refine l_ds 34 (.one (.d (.int .i64 k_42))) ?_
    refine l_ds 35 (.one (.d (.int .i64 v2970))) ?_
    refine l_ds 36 (.one (.d (.sl (List.map (eInt .i64) r2751.1)))) ?_
    refine l_ds 37 (.one (.d (.sl (List.map (eInt .i64) r2751.2)))) ?_
    refine l_call ok69 en69 (some 38) [.agg [.d (.sl (List.map TTree.enc s_42.trees)), .d (.int .i8 s_42.offsets.e0), .d (.int .i8 s_42.offsets.e1), .d (.int .i8 s_42.offsets.e2), .d (.int .i8 s_42.offsets.e3), .d (.sl (List.map TSync.enc s_42.syncs)), .d (.int .u8 s_42.wrong)], .one (.d (.int .i64 k_42)), .one (.d (.int .i64 v2970)), .one (.d (.sl (List.map (eInt .i64) r2751.1))), .one (.d (.sl (List.map (eInt .i64) r2751.2)))] [false, false, false, false, false] [.agg (List.map RC.d [.sl (List.map TTree.enc s_42.trees), .int .i8 s_42.offsets.e0, .int .i8 s_42.offsets.e1, .int .i8 s_42.offsets.e2, .int .i8 s_42.offsets.e3, .sl (List.map TSync.enc s_42.syncs), .int .u8 s_42.wrong]), .one (.d (.int .i64 k_42)), .one (.d (.int .i64 v2970)), .one (.d (.sl (List.map (eInt .i64) r2751.1))), .one (.d (.sl (List.map (eInt .i64) r2751.2)))] [] (by kernel_rfl) ⟨by kernel_rfl, by kernel_rfl⟩ (by kernel_rfl) (by kernel_rfl) (by kernel_rfl) (cl69 s_42 k_42 v2970 r2751.1 r2751.2 h) ?_
    rintro hR _ _ ⟨r3039, rfl, rfl, h⟩
    refine ⟨false, (.agg [.d (.int .i64 r3039.trace), .d (.int .i64 r3039.id), .d (.int .i64 r3039.parent), .d (.int .i64 r3039.revision), .d (.int .i64 r3039.clock), .d (.int .i64 r3039.kind), .d (.str r3039.service), .d (.str r3039.version), .d (.str r3039.operation), .d (.int .i64 r3039.start), .d (.int .i64 r3039.end_), .d (.bool r3039.error), .d (.sl (List.map TAttr.enc r3039.attrs)), .d (.sl (List.map TRef.enc r3039.links))], []), (fun hz => (by cases hz)), (ret_R hR (by kernel_rfl)), ?_⟩
    refine l_det (some 11) (.one (.ref 11 1 0 0), [(11, 1, .row true 58 14 [[.d (.int .i64 0), .d (.int .i64 0), .d (.int .i64 0), .d (.int .i64 0), .d (.int .i64 0), .d (.int .i64 0), .d (.str (⟨#[]⟩ : ByteArray)), .d (.str (⟨#[]⟩ : ByteArray)), .d (.str (⟨#[]⟩ : ByteArray)), .d (.int .i64 0), .d (.int .i64 0), .d (.bool false), .nils, .nils]])]) (by kernel_rfl) ?_
    refine l_det none (.tup [], [(11, 1, .row true 58 14 [[.d (.int .i64 r3039.trace), .d (.int .i64 r3039.id), .d (.int .i64 r3039.parent), .d (.int .i64 r3039.revision), .d (.int .i64 r3039.clock), .d (.int .i64 r3039.kind), .d (.str r3039.service), .d (.str r3039.version), .d (.str r3039.operation), .d (.int .i64 r3039.start), .d (.int .i64 r3039.end_), .d (.bool r3039.error), .d (.sl (List.map TAttr.enc r3039.attrs)), .d (.sl (List.map TRef.enc r3039.links))]])]) (by kernel_rfl) ?_
    refine l_nil ?_
    refine AW.seqL (S := (Int × Int)) (fun s => (fun (v3052 : Int) (v3053 : Int) => [(1, .one (.d (.int .i64 k_42))), (2, .one (.d (.bool truly_42))), (3, .one (.ref 200001 0 0 0)), (7, .one (.view 200002 0 0 ((List.map TSpan.enc v2969).length))), (8, .one (.d (.sl (List.map (eInt .i64) r2751.1)))), (9, .one (.d (.sl (List.map (eInt .i64) r2751.2)))), (10, .one (.d (.int .i64 v2970))), (11, .one (.ref 200003 0 0 0))]) s.1 s.2) (fun s => (fun (v3052 : Int) (v3053 : Int) => [(200001, .expl true 27 7 [[.d (.sl (List.map TTree.enc s_42.trees)), .d (.int .i8 s_42.offsets.e0), .d (.int .i8 s_42.offsets.e1), .d (.int .i8 s_42.offsets.e2), .d (.int .i8 s_42.offsets.e3), .d (.sl (List.map TSync.enc s_42.syncs)), .d (.int .u8 s_42.wrong)]]), (200002, .pure true 58 14 (List.map TSpan.enc v2969)), (200003, .expl true 58 14 [[.d (.int .i64 r3039.trace), .d (.int .i64 r3039.id), .d (.int .i64 r3039.parent), .d (.int .i64 r3039.revision), .d (.int .i64 r3039.clock), .d (.int .i64 r3039.kind), .d (.str r3039.service), .d (.str r3039.version), .d (.str r3039.operation), .d (.int .i64 v3052), .d (.int .i64 v3053), .d (.bool r3039.error), .d (.sl (List.map TAttr.enc r3039.attrs)), .d (.sl (List.map TRef.enc r3039.links))]])]) s.1 s.2) (fun s : (Int × Int) => J42_2 v2969 r3039 N3015 v2970 s.1 s.2) ?_ ?_
    · refine AW.sregL [(0, none), (1, none)] (by kernel_rfl) ?_
      refine l_ds 39 (.one (.d (.bool truly_42))) ?_
      refine l_ds 40 (.one (.d (.bool (!truly_42)))) ?_
      refine l_nil ?_
      refine AW.cond' (by kernel_rfl) h (fun h => ?_) (fun h => ?_)
      · refine AW.sregL [(0, none), (1, none), (2, none), (3, none), (4, none)] (by kernel_rfl) ?_
        refine l_ds 41 (.agg [.d (.sl (List.map TTree.enc s_42.trees)), .d (.int .i8 s_42.offsets.e0), .d (.int .i8 s_42.offsets.e1), .d (.int .i8 s_42.offsets.e2), .d (.int .i8 s_42.offsets.e3), .d (.sl (List.map TSync.enc s_42.syncs)), .d (.int .u8 s_42.wrong)]) ?_
        refine l_ds 42 (.one (.ref 11 1 0 4)) ?_
        refine l_ds 43 (.one (.d (.int .i64 r3039.clock))) ?_
        refine l_call ok70 en70 (some 44) [.agg [.d (.sl (List.map TTree.enc s_42.trees)), .d (.int .i8 s_42.offsets.e0), .d (.int .i8 s_42.offsets.e1), .d (.int .i8 s_42.offsets.e2), .d (.int .i8 s_42.offsets.e3), .d (.sl (List.map TSync.enc s_42.syncs)), .d (.int .u8 s_42.wrong)], .one (.d (.int .i64 r3039.clock))] [false, false] [.agg (List.map RC.d [.sl (List.map TTree.enc s_42.trees), .int .i8 s_42.offsets.e0, .int .i8 s_42.offsets.e1, .int .i8 s_42.offsets.e2, .int .i8 s_42.offsets.e3, .sl (List.map TSync.enc s_42.syncs), .int .u8 s_42.wrong]), .one (.d (.int .i64 r3039.clock))] [] (by kernel_rfl) ⟨by kernel_rfl, by kernel_rfl⟩ (by kernel_rfl) (by kernel_rfl) (by kernel_rfl) (cl70 s_42 r3039.clock h) ?_
        rintro hR _ _ ⟨r3055, rfl, rfl, h⟩
        refine ⟨false, (.one (.d (.int .i64 r3055)), []), (fun hz => (by cases hz)), (ret_R hR (by kernel_rfl)), ?_⟩
        refine l_ds 12 (.one (.d (.int .i64 r3055))) ?_
        refine l_nil ?_
        refine AW.seqL (S := Int) (fun s => (fun (v3058 : Int) => [(1, .one (.d (.int .i64 k_42))), (2, .one (.d (.bool truly_42))), (3, .one (.ref 200001 0 0 0)), (7, .one (.view 200002 0 0 ((List.map TSpan.enc v2969).length))), (8, .one (.d (.sl (List.map (eInt .i64) r2751.1)))), (9, .one (.d (.sl (List.map (eInt .i64) r2751.2)))), (10, .one (.d (.int .i64 v2970))), (11, .one (.ref 200003 0 0 0)), (12, .one (.d (.int .i64 v3058)))]) s) (fun s => (fun (v3058 : Int) => [(200001, .expl true 27 7 [[.d (.sl (List.map TTree.enc s_42.trees)), .d (.int .i8 s_42.offsets.e0), .d (.int .i8 s_42.offsets.e1), .d (.int .i8 s_42.offsets.e2), .d (.int .i8 s_42.offsets.e3), .d (.sl (List.map TSync.enc s_42.syncs)), .d (.int .u8 s_42.wrong)]]), (200002, .pure true 58 14 (List.map TSpan.enc v2969)), (200003, .expl true 58 14 [[.d (.int .i64 r3039.trace), .d (.int .i64 r3039.id), .d (.int .i64 r3039.parent), .d (.int .i64 r3039.revision), .d (.int .i64 r3039.clock), .d (.int .i64 r3039.kind), .d (.str r3039.service), .d (.str r3039.version), .d (.str r3039.operation), .d (.int .i64 r3039.start), .d (.int .i64 r3039.end_), .d (.bool r3039.error), .d (.sl (List.map TAttr.enc r3039.attrs)), .d (.sl (List.map TRef.enc r3039.links))]])]) s) (fun s : Int => J42_3 v2969 r3039 N3015 v2970 s) ?_ ?_
        · refine AW.seqL (S := Bool) (fun s => (fun (v3059 : Bool) => [(1, .one (.d (.int .i64 k_42))), (2, .one (.d (.bool truly_42))), (3, .one (.ref 200001 0 0 0)), (7, .one (.view 200002 0 0 ((List.map TSpan.enc v2969).length))), (8, .one (.d (.sl (List.map (eInt .i64) r2751.1)))), (9, .one (.d (.sl (List.map (eInt .i64) r2751.2)))), (10, .one (.d (.int .i64 v2970))), (11, .one (.ref 200003 0 0 0)), (12, .one (.d (.int .i64 r3055))), (64, .one (.d (.bool v3059)))]) s) (fun s => (fun (v3059 : Bool) => [(200001, .expl true 27 7 [[.d (.sl (List.map TTree.enc s_42.trees)), .d (.int .i8 s_42.offsets.e0), .d (.int .i8 s_42.offsets.e1), .d (.int .i8 s_42.offsets.e2), .d (.int .i8 s_42.offsets.e3), .d (.sl (List.map TSync.enc s_42.syncs)), .d (.int .u8 s_42.wrong)]]), (200002, .pure true 58 14 (List.map TSpan.enc v2969)), (200003, .expl true 58 14 [[.d (.int .i64 r3039.trace), .d (.int .i64 r3039.id), .d (.int .i64 r3039.parent), .d (.int .i64 r3039.revision), .d (.int .i64 r3039.clock), .d (.int .i64 r3039.kind), .d (.str r3039.service), .d (.str r3039.version), .d (.str r3039.operation), .d (.int .i64 r3039.start), .d (.int .i64 r3039.end_), .d (.bool r3039.error), .d (.sl (List.map TAttr.enc r3039.attrs)), .d (.sl (List.map TRef.enc r3039.links))]])]) s) (fun s : Bool => J42_4 v2969 r3039 N3015 v2970 r3055 s) ?_ ?_
          · refine AW.regL [(0, none), (1, none), (2, none), (3, none), (4, none), (5, none), (6, none), (7, none), (8, none), (9, none), (10, none), (11, none), (12, none), (13, none), (14, none), (15, none), (16, none), (17, none), (18, none), (19, none)] (by kernel_rfl) ?_
            refine l_ds 45 (.one (.ref 200001 0 0 6)) ?_
            refine l_ds 46 (.one (.d (.int .u8 s_42.wrong))) ?_
            refine l_ds 47 (.one (.d (.bool (decide (s_42.wrong > 0))))) ?_
            refine l_ds 48 (.one (.d (.bool (decide (s_42.wrong > 0))))) ?_
            refine l_split (s := 48) (by kernel_rfl) h (fun h => ?_) (fun h => ?_)
            · refine l_ds 49 (.one (.ref 200001 0 0 6)) ?_
              refine l_ds 50 (.one (.d (.int .u8 s_42.wrong))) ?_
              refine l_ds 51 (.one (.d (.int .i64 (w64 s_42.wrong)))) ?_
              refine l_ds 52 (.one (.d (.int .i64 (Int.tmod (w64 s_42.wrong) 8)))) ?_
              refine l_ds 53 (.one (.d (.int .i64 v2970))) ?_
              refine l_ds 54 (.one (.d (.bool (decide ((Int.tmod (w64 s_42.wrong) 8) = v2970))))) ?_
              refine l_ds 55 (.one (.d (.bool (decide ((Int.tmod (w64 s_42.wrong) 8) = v2970))))) ?_
              refine l_ds 56 (.one (.d (.bool (decide ((Int.tmod (w64 s_42.wrong) 8) = v2970))))) ?_
              refine l_split (s := 56) (by kernel_rfl) h (fun h => ?_) (fun h => ?_)
              · refine l_ds 57 (.one (.ref 200001 0 0 6)) ?_
                refine l_ds 58 (.one (.d (.int .u8 s_42.wrong))) ?_
                refine l_ds 59 (.one (.d (.int .i64 (w64 s_42.wrong)))) ?_
                refine l_ds 60 (.one (.d (.int .i64 (w64 (Int.tdiv (w64 s_42.wrong) 8))))) ?_
                refine l_ds 61 (.one (.d (.int .i64 (Int.tmod (w64 (Int.tdiv (w64 s_42.wrong) 8)) 3)))) ?_
                refine l_ds 62 (.one (.d (.int .i64 k_42))) ?_
                refine l_ds 63 (.one (.d (.bool (decide ((Int.tmod (w64 (Int.tdiv (w64 s_42.wrong) 8)) 3) = k_42))))) ?_
                refine l_ds 64 (.one (.d (.bool (decide ((Int.tmod (w64 (Int.tdiv (w64 s_42.wrong) 8)) 3) = k_42))))) ?_
                refine l_nil ?_
                refine q_fall ?_
                exact Lab.m (decide ((Int.tmod (w64 (Int.tdiv (w64 s_42.wrong) 8)) 3) = k_42)) [(200001, some 200001), (200002, some 200002), (200003, some 11)] h
              · refine l_ds 57 (.tup []) ?_
                refine l_ds 58 (.tup []) ?_
                refine l_ds 59 (.tup []) ?_
                refine l_ds 60 (.tup []) ?_
                refine l_ds 61 (.tup []) ?_
                refine l_ds 62 (.tup []) ?_
                refine l_ds 63 (.tup []) ?_
                refine l_ds 64 (.one (.d (.bool false))) ?_
                refine l_nil ?_
                refine q_fall ?_
                exact Lab.m false [(200001, some 200001), (200002, some 200002), (200003, some 11)] h
            · refine l_ds 49 (.tup []) ?_
              refine l_ds 50 (.tup []) ?_
              refine l_ds 51 (.tup []) ?_
              refine l_ds 52 (.tup []) ?_
              refine l_ds 53 (.tup []) ?_
              refine l_ds 54 (.tup []) ?_
              refine l_ds 55 (.one (.d (.bool false))) ?_
              refine l_ds 56 (.one (.d (.bool false))) ?_
              refine l_ds 57 (.tup []) ?_
              refine l_ds 58 (.tup []) ?_
              refine l_ds 59 (.tup []) ?_
              refine l_ds 60 (.tup []) ?_
              refine l_ds 61 (.tup []) ?_
              refine l_ds 62 (.tup []) ?_
              refine l_ds 63 (.tup []) ?_
              refine l_ds 64 (.one (.d (.bool false))) ?_
              refine l_nil ?_
              refine q_fall ?_
              exact Lab.m false [(200001, some 200001), (200002, some 200002), (200003, some 11)] h
          · rintro v3059 h
            have h : J42_4 v2969 r3039 N3015 v2970 r3055 v3059 := h
            unfold J42_4 at h
            refine AW.cond' (by kernel_rfl) h (fun h => ?_) (fun h => ?_)
            · refine AW.regL [(0, none), (1, none), (2, none)] (by kernel_rfl) ?_
              refine l_ds 65 (.one (.d (.int .i64 r3055))) ?_
              refine l_ds 66 (.one (.d (.int .i64 (w64 (r3055 + 500))))) ?_
              refine l_ds 12 (.one (.d (.int .i64 (w64 (r3055 + 500))))) ?_
              refine l_nil ?_
              refine q_fall ?_
              exact Lab.m (w64 (r3055 + 500)) [(200001, some 200001), (200002, some 200002), (200003, some 200003)] h
            · refine AW.skip ?_
              refine q_fall ?_
              exact Lab.m r3055 [(200001, some 200001), (200002, some 200002), (200003, some 200003)] h
        · rintro v3058 h
          have h : J42_3 v2969 r3039 N3015 v2970 v3058 := h
          unfold J42_3 at h
          refine AW.regL [(0, none), (1, none), (2, none), (3, none), (4, none), (5, none), (6, none), (7, none), (8, none), (9, none), (10, none), (11, none)] (by kernel_rfl) ?_
          refine l_ds 67 (.one (.ref 200003 0 0 9)) ?_
          refine l_ds 68 (.one (.d (.int .i64 r3039.start))) ?_
          refine l_ds 69 (.one (.d (.int .i64 v3058))) ?_
          refine l_ds 70 (.one (.d (.int .i64 (w64 (r3039.start + v3058))))) ?_
          refine l_ds 71 (.one (.ref 200003 0 0 10)) ?_
          refine l_ds 72 (.one (.d (.int .i64 r3039.end_))) ?_
          refine l_ds 73 (.one (.d (.int .i64 v3058))) ?_
          refine l_ds 74 (.one (.d (.int .i64 (w64 (r3039.end_ + v3058))))) ?_
          refine l_ds 75 (.one (.ref 200003 0 0 9)) ?_
          refine l_det none (.tup [], [(200003, 0, .row true 58 14 [[.d (.int .i64 r3039.trace), .d (.int .i64 r3039.id), .d (.int .i64 r3039.parent), .d (.int .i64 r3039.revision), .d (.int .i64 r3039.clock), .d (.int .i64 r3039.kind), .d (.str r3039.service), .d (.str r3039.version), .d (.str r3039.operation), .d (.int .i64 (w64 (r3039.start + v3058))), .d (.int .i64 r3039.end_), .d (.bool r3039.error), .d (.sl (List.map TAttr.enc r3039.attrs)), .d (.sl (List.map TRef.enc r3039.links))]])]) (by kernel_rfl) ?_
          refine l_ds 76 (.one (.ref 200003 0 0 10)) ?_
          refine l_det none (.tup [], [(200003, 0, .row true 58 14 [[.d (.int .i64 r3039.trace), .d (.int .i64 r3039.id), .d (.int .i64 r3039.parent), .d (.int .i64 r3039.revision), .d (.int .i64 r3039.clock), .d (.int .i64 r3039.kind), .d (.str r3039.service), .d (.str r3039.version), .d (.str r3039.operation), .d (.int .i64 (w64 (r3039.start + v3058))), .d (.int .i64 (w64 (r3039.end_ + v3058))), .d (.bool r3039.error), .d (.sl (List.map TAttr.enc r3039.attrs)), .d (.sl (List.map TRef.enc r3039.links))]])]) (by kernel_rfl) ?_
          refine l_nil ?_
          refine q_fall ?_
          exact Lab.m ((w64 (r3039.start + v3058)), (w64 (r3039.end_ + v3058))) [(200001, some 200001), (200002, some 200002), (200003, some 200003)] h
      · refine AW.skip ?_
        refine q_fall ?_
        exact Lab.m (r3039.start, r3039.end_) [(200001, some 200001), (200002, some 200002), (200003, some 11)] h
    · rintro ⟨v3052, v3053⟩ h
      have h : J42_2 v2969 r3039 N3015 v2970 v3052 v3053 := h
      unfold J42_2 at h
      refine AW.regL [(0, none), (1, none), (2, none), (3, none), (4, none)] (by kernel_rfl) ?_
      refine l_ds 77 (.one (.view 200002 0 0 ((List.map TSpan.enc v2969).length))) ?_
      refine l_ds 78 (.agg [.d (.int .i64 r3039.trace), .d (.int .i64 r3039.id), .d (.int .i64 r3039.parent), .d (.int .i64 r3039.revision), .d (.int .i64 r3039.clock), .d (.int .i64 r3039.kind), .d (.str r3039.service), .d (.str r3039.version), .d (.str r3039.operation), .d (.int .i64 v3052), .d (.int .i64 v3053), .d (.bool r3039.error), .d (.sl (List.map TAttr.enc r3039.attrs)), .d (.sl (List.map TRef.enc r3039.links))]) ?_
      refine l_det (some 79) (.one (.view 79 1 0 1), [(79, 1, .row true 58 14 [[.d (.int .i64 r3039.trace), .d (.int .i64 r3039.id), .d (.int .i64 r3039.parent), .d (.int .i64 r3039.revision), .d (.int .i64 r3039.clock), .d (.int .i64 r3039.kind), .d (.str r3039.service), .d (.str r3039.version), .d (.str r3039.operation), .d (.int .i64 v3052), .d (.int .i64 v3053), .d (.bool r3039.error), .d (.sl (List.map TAttr.enc r3039.attrs)), .d (.sl (List.map TRef.enc r3039.links))]])]) (by kernel_rfl) ?_
      obtain ⟨h112, h⟩ := h
      refine l_spec (some 80) (.app 58 14 168 [.int .i64 0, .int .i64 0, .int .i64 0, .int .i64 0, .int .i64 0, .int .i64 0, .str ⟨#[]⟩, .str ⟨#[]⟩, .str ⟨#[]⟩, .int .i64 0, .int .i64 0, .bool false, .nils, .nils] (.t 77) (.t 79)) (.one (.view 200002 1 0 ((List.map TSpan.enc (v2969 ++ [(TSpan.mk r3039.trace r3039.id r3039.parent r3039.revision r3039.clock r3039.kind r3039.service r3039.version r3039.operation v3052 v3053 r3039.error r3039.attrs r3039.links)])).length)), [(200002, 1, .row true 58 14 (dmm (List.map TSpan.enc (v2969 ++ [(TSpan.mk r3039.trace r3039.id r3039.parent r3039.revision r3039.clock r3039.kind r3039.service r3039.version r3039.operation v3052 v3053 r3039.error r3039.attrs r3039.links)]))))]) (by kernel_rfl) (detA_none (d_app_v (enc := TSpan.enc) (xc := .view 79 1 0 1) v2969 [(TSpan.mk r3039.trace r3039.id r3039.parent r3039.revision r3039.clock r3039.kind r3039.service r3039.version r3039.operation v3052 v3053 r3039.error r3039.attrs r3039.links)] (by kernel_rfl) (by kernel_rfl) (by kernel_rfl) (by kernel_rfl) (by kernel_rfl) h112 (by kernel_rfl))) ?_
      refine l_ds 7 (.one (.view 200002 1 0 ((List.map TSpan.enc (v2969 ++ [(TSpan.mk r3039.trace r3039.id r3039.parent r3039.revision r3039.clock r3039.kind r3039.service r3039.version r3039.operation v3052 v3053 r3039.error r3039.attrs r3039.links)])).length))) ?_
      refine l_nil ?_
      refine q_bfall ?_
      refine q_fall ?_
      refine AW.regL [(0, none), (1, none), (2, none)] (by kernel_rfl) ?_
      refine l_ds 31 (.one (.d (.int .i64 v2970))) ?_
      refine l_ds 32 (.one (.d (.int .i64 (w64 (v2970 + 1))))) ?_
      refine l_ds 10 (.one (.d (.int .i64 (w64 (v2970 + 1))))) ?_
      refine l_nil ?_
      refine q_fall ?_
      exact Lab.m ((v2969 ++ [(TSpan.mk r3039.trace r3039.id r3039.parent r3039.revision r3039.clock r3039.kind r3039.service r3039.version r3039.operation v3052 v3053 r3039.error r3039.attrs r3039.links)]), (w64 (v2970 + 1))) [(200001, some 200001), (200002, some 200002)] h
  · refine AW.exit ?_
    refine q_exit ?_
    refine q_exit ?_
    refine q_bhere ?_
    refine q_fall ?_
    refine AW.sregL [(0, none), (1, none)] (by kernel_rfl) ?_
    refine l_ds 81 (.one (.view 200002 0 0 ((List.map TSpan.enc v2969).length))) ?_
    refine l_ds 6 (.one (.view 200002 0 0 ((List.map TSpan.enc v2969).length))) ?_
    refine l_nil ?_
    refine AW.ret ?_
    exact q_end [.one (.view 200002 0 0 ((List.map TSpan.enc v2969).length))] [false] [.one (.d (.sl (List.map TSpan.enc v2969)))] [] [200002] (by kernel_rfl) (ps_plain (pv_one (pf_view (E := 58) (sz := 14) (l := true) (List.map TSpan.enc v2969) (by kernel_rfl) (by kernel_rfl) rfl)) ps_nil) (by kernel_rfl) (by kernel_rfl) (by kernel_rfl) (by kernel_rfl) (Eq.mp (by kernel_rfl) (hK v2969 h)) (.inr rfl)
def r17_0 : List AR := [⟨some 1, .box 27 true 7 (.t 0), [], none⟩,
  ⟨some 2, .mov (.c .nils), [], none⟩]
def r17_1 : List AR := [⟨some 3, .mov (.c .nils), [], none⟩]
def r17_2 : List AR := [⟨some 4, .mov (.c (.int .i64 0)), [], none⟩]
def r17_3 : List AR := [⟨some 7, .mov (.t 4), [], none⟩,
  ⟨some 8, .fad (.t 1) 0, [], none⟩,
  ⟨some 9, .ld false 1 (.t 8), [1], none⟩,
  ⟨some 10, .lens (.t 9), [2], none⟩,
  ⟨some 11, .bin .lss (.t 7) (.t 10), [0, 3], none⟩]
def r17_4 : List AR := [⟨some 14, .fad (.t 1) 0, [], none⟩,
  ⟨some 15, .ld false 1 (.t 14), [0], none⟩,
  ⟨some 16, .mov (.t 4), [], none⟩,
  ⟨some 17, .iad 3 (.t 15) (.t 16), [1, 2], none⟩,
  ⟨some 18, .fad (.t 17) 2, [3], none⟩,
  ⟨some 19, .ld false 1 (.t 18), [4], none⟩,
  ⟨some 20, .lens (.t 19), [5], none⟩,
  ⟨some 21, .bin .eql (.t 20) (.c (.int .i64 0)), [6], none⟩]
def r17_5 : List AR := [⟨some 22, .ld true 7 (.t 1), [], none⟩,
  ⟨some 23, .mov (.t 4), [], none⟩,
  ⟨some 24, .call 41 [.t 22, .t 23], [0, 1], none⟩,
  ⟨some 25, .ld true 7 (.t 1), [], none⟩,
  ⟨some 26, .mov (.t 4), [], none⟩,
  ⟨some 27, .call 42 [.t 25, .t 26, .c (.bool false)], [3, 4, 2], none⟩,
  ⟨some 28, .bld [.int .i64 0, .int .i64 0, .nils] [(0, 1, .t 24), (1, 1, .c (.int .i64 1)), (2, 1, .t 27)], [2, 5], none⟩,
  ⟨some 5, .alloc 53 true [.int .i64 0, .int .i64 0, .nils], [], none⟩,
  ⟨none, .st 3 (.t 5) (.t 28), [7, 6, 5, 0, 1, 2, 3, 4, 5, 6, 7], none⟩]
def r17_6 : List AR := [⟨some 29, .mov (.t 3), [], none⟩,
  ⟨some 30, .lens (.t 29), [0], none⟩,
  ⟨some 6, .mov (.t 30), [1, 0, 1], none⟩]
def r17_7 : List AR := [⟨some 31, .mov (.t 6), [], none⟩,
  ⟨some 32, .bin .gtr (.t 31) (.c (.int .i64 0)), [0], none⟩,
  ⟨some 33, .mov (.t 32), [1], none⟩,
  ⟨some 34, .mov (.t 3), [2], some (33, true)⟩,
  ⟨some 35, .mov (.t 6), [2], some (33, true)⟩,
  ⟨some 36, .bin .sub (.t 35) (.c (.int .i64 1)), [4, 2], some (33, true)⟩,
  ⟨some 37, .iad 3 (.t 34) (.t 36), [3, 5, 2], some (33, true)⟩,
  ⟨some 38, .fad (.t 37) 0, [6, 2], some (33, true)⟩,
  ⟨some 39, .ld false 1 (.t 38), [7, 2], some (33, true)⟩,
  ⟨some 40, .fad (.t 5) 0, [2], some (33, true)⟩,
  ⟨some 41, .ld false 1 (.t 40), [9, 2], some (33, true)⟩,
  ⟨some 42, .bin .gtr (.t 39) (.t 41), [8, 10, 2], some (33, true)⟩,
  ⟨some 43, .pick (.t 33) (.t 42) (.c (.bool false)), [2, 11], none⟩]
def r17_8 : List AR := [⟨some 44, .mov (.t 6), [], none⟩,
  ⟨some 45, .bin .sub (.t 44) (.c (.int .i64 1)), [0], none⟩,
  ⟨some 6, .mov (.t 45), [1, 0, 1], none⟩]
def r17_9 : List AR := [⟨some 46, .bsl 53 3 0 [.int .i64 0, .int .i64 0, .nils] [], [], none⟩,
  ⟨some 47, .mov (.t 3), [], none⟩,
  ⟨some 48, .mov (.t 6), [], none⟩,
  ⟨some 49, .slc 3 (.t 47) none (some (.t 48)) none, [1, 2], none⟩,
  ⟨some 50, .app 53 3 40 [.int .i64 0, .int .i64 0, .nils] (.t 46) (.t 49), [0, 3], none⟩,
  ⟨some 51, .ld true 3 (.t 5), [], none⟩,
  ⟨some 52, .bsl 53 3 1 [.int .i64 0, .int .i64 0, .nils] [(0, .t 51)], [5], none⟩,
  ⟨some 53, .app 53 3 40 [.int .i64 0, .int .i64 0, .nils] (.t 50) (.t 52), [4, 6, 4], none⟩,
  ⟨some 54, .mov (.t 3), [], none⟩,
  ⟨some 55, .mov (.t 6), [], none⟩,
  ⟨some 56, .slc 3 (.t 54) (some (.t 55)) none none, [8, 9], none⟩,
  ⟨some 57, .app 53 3 40 [.int .i64 0, .int .i64 0, .nils] (.t 53) (.t 56), [7, 10, 7], none⟩,
  ⟨some 3, .mov (.t 57), [11, 11, 0, 1, 2, 3, 4, 5, 6, 7, 8, 9, 10, 11], none⟩]
def r17_10 : List AR := [⟨some 12, .mov (.t 4), [], none⟩,
  ⟨some 13, .bin .add (.t 12) (.c (.int .i64 1)), [0], none⟩,
  ⟨some 4, .mov (.t 13), [1, 0, 1], none⟩]
def r17_11 : List AR := [⟨some 58, .mov (.t 3), [], none⟩,
  ⟨some 2, .mov (.t 58), [0, 0], none⟩]
def c17 : ACode := .seq (.reg r17_0 false) (.seq (.reg r17_1 false) (.seq (.seq (.reg r17_2 false) (.blk 0 (.loop (.seq (.seq (.reg r17_3 false) (.cond (.t 11) (.skip) (.exit 0))) (.seq (.blk 1 (.seq (.seq (.reg r17_4 false) (.cond (.t 21) (.exit 1) (.skip))) (.seq (.reg r17_5 true) (.seq (.reg r17_6 false) (.seq (.blk 2 (.loop (.seq (.seq (.reg r17_7 true) (.cond (.t 43) (.skip) (.exit 2))) (.blk 3 (.reg r17_8 false))))) (.reg r17_9 true)))))) (.reg r17_10 false)))))) (.seq (.reg r17_11 false) (.ret))))
theorem body17 : Try.f17.body.map (comp Try.prog 59) = some c17 := by kernel_rfl
theorem res17 : allSome (Try.f17.results.toList.map (compRes Try.prog)) = some [.s 2] := by kernel_rfl
theorem cok17 {S : FSpec} (h : ∀ args K, S args K → args.all argOk = true ∧ args.length ≤ 59 ∧ AW Try.prog 59 (some ownP) c17 (initS args) (retPost [.s 2] args K)) : COK Try.prog 17 S := of_body Try.func17 Try.ntmps17 body17 res17 h

def J17_2 (N3665 : ((List TTrace) × Int) → Prop) (v3483 : Int) (v3786 : List TTrace) : Prop :=
  N3665 (v3786, (w64 (v3483 + 1)))

def J17_4 (N3838 : Int → Prop) (v3829 : Int) (v3482 : List TTrace) (r3793 : Int) (r3794 : (List TSpan)) (N3665 : ((List TTrace) × Int) → Prop) (v3483 : Int) (v3845 : Bool) : Prop :=
  Cond v3845 (N3838 (w64 (v3829 - 1))) (0 ≤ v3829 ∧ v3829 ≤ (v3482.length : Int) ∧ (0 ≤ v3829 ∧ v3829 ≤ (v3482.length : Int) ∧ (Fits (([] ++ (List.take (v3829.toNat - 0) (List.drop 0 v3482))).length * 40) (Fits ((([] ++ (List.take (v3829.toNat - 0) (List.drop 0 v3482))) ++ [(TTrace.mk r3793 1 r3794)]).length * 40) (Fits (((([] ++ (List.take (v3829.toNat - 0) (List.drop 0 v3482))) ++ [(TTrace.mk r3793 1 r3794)]) ++ (List.take (v3482.length - v3829.toNat) (List.drop v3829.toNat v3482))).length * 40) (J17_2 N3665 v3483 ((([] ++ (List.take (v3829.toNat - 0) (List.drop 0 v3482))) ++ [(TTrace.mk r3793 1 r3794)]) ++ (List.take (v3482.length - v3829.toNat) (List.drop v3829.toNat v3482)))))))))

def L17_3 (v3482 : List TTrace) (r3793 : Int) (r3794 : (List TSpan)) (N3665 : ((List TTrace) × Int) → Prop) (v3483 : Int) (v3829 : Int) (N3838 : Int → Prop) : Prop :=
  Cond (decide (v3829 > 0)) (Idx v3482 (w64 (v3829 - 1)) fun x3846 => J17_4 N3838 v3829 v3482 r3793 r3794 N3665 v3483 (decide (x3846.id > r3793))) (J17_4 N3838 v3829 v3482 r3793 r3794 N3665 v3483 false)

def L17_1 (s_17 : TStory) (K : (List TTrace) → Prop) (v3482 : List TTrace) (v3483 : Int) (N3665 : ((List TTrace) × Int) → Prop) : Prop :=
  Cond (decide (v3483 < (s_17.trees.length : Int))) (Idx s_17.trees v3483 fun x3790 => Cond (decide ((x3790.calls.length : Int) = 0)) (J17_2 N3665 v3483 v3482) (W41 s_17 v3483 fun r3793 => W42 s_17 v3483 false fun r3794 => LoopW (fun (s : Int) N3838 => L17_3 v3482 r3793 r3794 N3665 v3483 s N3838) (v3482.length : Int))) (K v3482)

/-- sleuth/sleuthlaw13.Traces -/
def W17 (s_17 : TStory) (K : (List TTrace) → Prop) : Prop :=
  LoopW (fun (s : ((List TTrace) × Int)) N3665 => L17_1 s_17 K s.1 s.2 N3665) ([], 0)

def S17 : FSpec := fun args K => ∃ (s_17 : TStory), ∃ (Kr : (List TTrace) → Prop), args = [.agg (List.map RC.d (TStory.enc s_17))] ∧ W17 s_17 Kr ∧ ∀ r, Kr r → K (.one (.own 53 3 (List.map TTrace.enc r))) []

theorem en17 : enters Try.prog 17 = true := by unfold enters; rw [Try.func17]; rfl
theorem cl17 (s_17 : TStory) {Kr : (List TTrace) → Prop} (h : W17 s_17 Kr) : S17 [.agg (List.map RC.d (TStory.enc s_17))] (fun rv rows => ∃ r, rv = (.one (.own 53 3 (List.map TTrace.enc r))) ∧ rows = [] ∧ Kr r) := ⟨s_17, Kr, rfl, h, fun r hr => ⟨r, rfl, rfl, hr⟩⟩

theorem ok17 : COK Try.prog 17 S17 := by
  refine cok17 fun args K0 hS => ?_
  obtain ⟨s_17, K, rfl, h, hK⟩ := hS
  refine ⟨by kernel_rfl, by simp, ?_⟩
  unfold W17 at h
  refine AW.sregL [(0, none), (1, none)] (by kernel_rfl) ?_
  refine l_det (some 1) (.one (.ref 1 1 0 0), [(1, 1, .row true 27 7 [[.d (.sl (List.map TTree.enc s_17.trees)), .d (.int .i8 s_17.offsets.e0), .d (.int .i8 s_17.offsets.e1), .d (.int .i8 s_17.offsets.e2), .d (.int .i8 s_17.offsets.e3), .d (.sl (List.map TSync.enc s_17.syncs)), .d (.int .u8 s_17.wrong)]])]) (by kernel_rfl) ?_
  refine l_ds 2 (.one (.nils)) ?_
  refine l_nil ?_
  refine AW.sregL [(0, none)] (by kernel_rfl) ?_
  refine l_ds 3 (.one (.nils)) ?_
  refine l_nil ?_
  refine AW.seq ?_
  refine AW.sregL [(0, none)] (by kernel_rfl) ?_
  refine l_ds 4 (.one (.d (.int .i64 0))) ?_
  refine l_nil ?_
  refine AW.blk ?_
  refine AW.loopL (S := ((List TTrace) × Int)) (fun s => (fun (v3482 : List TTrace) (v3483 : Int) => [(1, .one (.ref 200001 0 0 0)), (3, .one (.view 200002 0 0 ((List.map TTrace.enc v3482).length))), (4, .one (.d (.int .i64 v3483)))]) s.1 s.2) (fun s => (fun (v3482 : List TTrace) (v3483 : Int) => [(200001, .expl true 27 7 [[.d (.sl (List.map TTree.enc s_17.trees)), .d (.int .i8 s_17.offsets.e0), .d (.int .i8 s_17.offsets.e1), .d (.int .i8 s_17.offsets.e2), .d (.int .i8 s_17.offsets.e3), .d (.sl (List.map TSync.enc s_17.syncs)), .d (.int .u8 s_17.wrong)]]), (200002, .pure true 53 3 (List.map TTrace.enc v3482))]) s.1 s.2) (fun (s : ((List TTrace) × Int)) N3665 => L17_1 s_17 K s.1 s.2 N3665) (N := fun s => LoopW (fun (s : ((List TTrace) × Int)) N3665 => L17_1 s_17 K s.1 s.2 N3665) s) (Lab.m ([], 0) [(200001, some 1), (200002, none)] h) (fun _ h => h) ?_
  rintro ⟨v3482, v3483⟩ N3665 h
  have h : L17_1 s_17 K v3482 v3483 N3665 := h
  unfold L17_1 at h
  refine AW.seq ?_
  refine AW.sregL [(0, none), (1, none), (2, none), (3, none), (4, none)] (by kernel_rfl) ?_
  refine l_ds 7 (.one (.d (.int .i64 v3483))) ?_
  refine l_ds 8 (.one (.ref 200001 0 0 0)) ?_
  refine l_ds 9 (.one (.d (.sl (List.map TTree.enc s_17.trees)))) ?_
  refine l_spec (some 10) (.lens (.t 9)) (.one (.d (.int .i64 (s_17.trees.length : Int))), []) (by kernel_rfl) (detA_none (d_lens_sl (enc := TTree.enc) s_17.trees (by kernel_rfl))) ?_
  refine l_ds 11 (.one (.d (.bool (decide (v3483 < (s_17.trees.length : Int)))))) ?_
  refine l_nil ?_
  refine AW.cond' (by kernel_rfl) h (fun h => ?_) (fun h => ?_)
  · refine AW.skip ?_
    refine q_fall ?_
    refine AW.seqL (S := (List TTrace)) (fun s => (fun (v3786 : List TTrace) => [(1, .one (.ref 200001 0 0 0)), (3, .one (.view 200002 0 0 ((List.map TTrace.enc v3786).length))), (4, .one (.d (.int .i64 v3483)))]) s) (fun s => (fun (v3786 : List TTrace) => [(200001, .expl true 27 7 [[.d (.sl (List.map TTree.enc s_17.trees)), .d (.int .i8 s_17.offsets.e0), .d (.int .i8 s_17.offsets.e1), .d (.int .i8 s_17.offsets.e2), .d (.int .i8 s_17.offsets.e3), .d (.sl (List.map TSync.enc s_17.syncs)), .d (.int .u8 s_17.wrong)]]), (200002, .pure true 53 3 (List.map TTrace.enc v3786))]) s) (fun s : (List TTrace) => J17_2 N3665 v3483 s) ?_ ?_
    · refine AW.blk ?_
      refine AW.seq ?_
      refine AW.sregL [(0, none), (1, none), (2, none), (3, none), (4, none), (5, none), (6, none), (7, none)] (by kernel_rfl) ?_
      refine l_ds 14 (.one (.ref 200001 0 0 0)) ?_
      refine l_ds 15 (.one (.d (.sl (List.map TTree.enc s_17.trees)))) ?_
      refine l_ds 16 (.one (.d (.int .i64 v3483))) ?_
      obtain ⟨h1156, x3790, h1157, h⟩ := h
      refine l_spec (some 17) (.iad 3 (.t 15) (.t 16)) (.one (.d (.ptr [.int .u8 x3790.slot, .int .u8 x3790.start, .sl (List.map TCall.enc x3790.calls)])), []) (by kernel_rfl) (detA_none (d_iad_sl (enc := TTree.enc) (k := .i64) s_17.trees x3790 (by kernel_rfl) (by kernel_rfl) h1156 h1157 rfl)) ?_
      refine l_ds 18 (.one (.d (.ptr [.sl (List.map TCall.enc x3790.calls)]))) ?_
      refine l_ds 19 (.one (.d (.sl (List.map TCall.enc x3790.calls)))) ?_
      refine l_spec (some 20) (.lens (.t 19)) (.one (.d (.int .i64 (x3790.calls.length : Int))), []) (by kernel_rfl) (detA_none (d_lens_sl (enc := TCall.enc) x3790.calls (by kernel_rfl))) ?_
      refine l_ds 21 (.one (.d (.bool (decide ((x3790.calls.length : Int) = 0))))) ?_
      refine l_nil ?_
      refine AW.cond' (by kernel_rfl) h (fun h => ?_) (fun h => ?_)
      · refine AW.exit ?_
        refine q_exit ?_
        refine q_bhere ?_
        refine q_fall ?_
        exact Lab.m v3482 [(200001, some 200001), (200002, some 200002)] h
      · refine AW.skip ?_
        refine q_fall ?_
        refine AW.sregdL follows_mixed [[], [], [0, 1], [], [], [0, 1, 2, 3, 4], [0, 1, 2, 3, 4, 5], [], [0, 1, 2, 3, 4, 5, 6, 7]] [(0, some [22, 1200001]), (1, none), (3, some [25, 1200001]), (4, none), (7, some [5]), (2, some [24]), (5, some [27]), (6, none), (8, none)] (by kernel_rfl) ?_
        refine l_ds 22 (.agg [.d (.sl (List.map TTree.enc s_17.trees)), .d (.int .i8 s_17.offsets.e0), .d (.int .i8 s_17.offsets.e1), .d (.int .i8 s_17.offsets.e2), .d (.int .i8 s_17.offsets.e3), .d (.sl (List.map TSync.enc s_17.syncs)), .d (.int .u8 s_17.wrong)]) ?_
        refine l_ds 23 (.one (.d (.int .i64 v3483))) ?_
        refine l_ds 25 (.agg [.d (.sl (List.map TTree.enc s_17.trees)), .d (.int .i8 s_17.offsets.e0), .d (.int .i8 s_17.offsets.e1), .d (.int .i8 s_17.offsets.e2), .d (.int .i8 s_17.offsets.e3), .d (.sl (List.map TSync.enc s_17.syncs)), .d (.int .u8 s_17.wrong)]) ?_
        refine l_ds 26 (.one (.d (.int .i64 v3483))) ?_
        refine l_det (some 5) (.one (.ref 5 1 0 0), [(5, 1, .row true 53 3 [[.d (.int .i64 0), .d (.int .i64 0), .nils]])]) (by kernel_rfl) ?_
        refine l_call ok41 en41 (some 24) [.agg [.d (.sl (List.map TTree.enc s_17.trees)), .d (.int .i8 s_17.offsets.e0), .d (.int .i8 s_17.offsets.e1), .d (.int .i8 s_17.offsets.e2), .d (.int .i8 s_17.offsets.e3), .d (.sl (List.map TSync.enc s_17.syncs)), .d (.int .u8 s_17.wrong)], .one (.d (.int .i64 v3483))] [false, false] [.agg (List.map RC.d [.sl (List.map TTree.enc s_17.trees), .int .i8 s_17.offsets.e0, .int .i8 s_17.offsets.e1, .int .i8 s_17.offsets.e2, .int .i8 s_17.offsets.e3, .sl (List.map TSync.enc s_17.syncs), .int .u8 s_17.wrong]), .one (.d (.int .i64 v3483))] [] (by kernel_rfl) ⟨by kernel_rfl, by kernel_rfl⟩ (by kernel_rfl) (by kernel_rfl) (by kernel_rfl) (cl41 s_17 v3483 h) ?_
        rintro hR _ _ ⟨r3793, rfl, rfl, h⟩
        refine ⟨false, (.one (.d (.int .i64 r3793)), []), (fun hz => (by cases hz)), (ret_R hR (by kernel_rfl)), ?_⟩
        refine l_call ok42 en42 (some 27) [.agg [.d (.sl (List.map TTree.enc s_17.trees)), .d (.int .i8 s_17.offsets.e0), .d (.int .i8 s_17.offsets.e1), .d (.int .i8 s_17.offsets.e2), .d (.int .i8 s_17.offsets.e3), .d (.sl (List.map TSync.enc s_17.syncs)), .d (.int .u8 s_17.wrong)], .one (.d (.int .i64 v3483)), .one (.d (.bool false))] [false, false, false] [.agg (List.map RC.d [.sl (List.map TTree.enc s_17.trees), .int .i8 s_17.offsets.e0, .int .i8 s_17.offsets.e1, .int .i8 s_17.offsets.e2, .int .i8 s_17.offsets.e3, .sl (List.map TSync.enc s_17.syncs), .int .u8 s_17.wrong]), .one (.d (.int .i64 v3483)), .one (.d (.bool false))] [] (by kernel_rfl) ⟨by kernel_rfl, by kernel_rfl⟩ (by kernel_rfl) (by kernel_rfl) (by kernel_rfl) (cl42 s_17 v3483 false h) ?_
        rintro hR _ _ ⟨r3794, rfl, rfl, h⟩
        refine ⟨false, (.one (.d (.sl (List.map TSpan.enc r3794))), []), (fun hz => (by cases hz)), (ret_R hR (by kernel_rfl)), ?_⟩
        refine l_ds 28 (.agg [.d (.int .i64 r3793), .d (.int .i64 1), .d (.sl (List.map TSpan.enc r3794))]) ?_
        refine l_det none (.tup [], [(5, 1, .row true 53 3 [[.d (.int .i64 r3793), .d (.int .i64 1), .d (.sl (List.map TSpan.enc r3794))]])]) (by kernel_rfl) ?_
        refine l_nil ?_
        refine AW.sregL [(0, none), (1, none), (2, none)] (by kernel_rfl) ?_
        refine l_ds 29 (.one (.view 200002 0 0 ((List.map TTrace.enc v3482).length))) ?_
        refine l_spec (some 30) (.lens (.t 29)) (.one (.d (.int .i64 (v3482.length : Int))), []) (by kernel_rfl) (detA_none (d_lens_v (enc := TTrace.enc) (o := 200002) (g := 0) v3482 (by kernel_rfl))) ?_
        refine l_ds 6 (.one (.d (.int .i64 (v3482.length : Int)))) ?_
        refine l_nil ?_
        refine AW.seq ?_
        refine AW.blk ?_
        refine AW.loopL (S := Int) (fun s => (fun (v3829 : Int) => [(1, .one (.ref 200001 0 0 0)), (3, .one (.view 200002 0 0 ((List.map TTrace.enc v3482).length))), (4, .one (.d (.int .i64 v3483))), (5, .one (.ref 200003 0 0 0)), (6, .one (.d (.int .i64 v3829)))]) s) (fun s => (fun (v3829 : Int) => [(200001, .expl true 27 7 [[.d (.sl (List.map TTree.enc s_17.trees)), .d (.int .i8 s_17.offsets.e0), .d (.int .i8 s_17.offsets.e1), .d (.int .i8 s_17.offsets.e2), .d (.int .i8 s_17.offsets.e3), .d (.sl (List.map TSync.enc s_17.syncs)), .d (.int .u8 s_17.wrong)]]), (200002, .pure true 53 3 (List.map TTrace.enc v3482)), (200003, .expl true 53 3 [[.d (.int .i64 r3793), .d (.int .i64 1), .d (.sl (List.map TSpan.enc r3794))]])]) s) (fun (s : Int) N3838 => L17_3 v3482 r3793 r3794 N3665 v3483 s N3838) (N := fun s => LoopW (fun (s : Int) N3838 => L17_3 v3482 r3793 r3794 N3665 v3483 s N3838) s) (Lab.m (v3482.length : Int) [(200001, some 200001), (200002, some 200002), (200003, some 5)] h) (fun _ h => h) ?_
        rintro v3829 N3838 h
        have h : L17_3 v3482 r3793 r3794 N3665 v3483 v3829 N3838 := h
        unfold L17_3 at h
        refine AW.seq ?_
        refine AW.seqL (S := Bool) (fun s => (fun (v3845 : Bool) => [(1, .one (.ref 200001 0 0 0)), (3, .one (.view 200002 0 0 ((List.map TTrace.enc v3482).length))), (4, .one (.d (.int .i64 v3483))), (5, .one (.ref 200003 0 0 0)), (6, .one (.d (.int .i64 v3829))), (43, .one (.d (.bool v3845)))]) s) (fun s => (fun (v3845 : Bool) => [(200001, .expl true 27 7 [[.d (.sl (List.map TTree.enc s_17.trees)), .d (.int .i8 s_17.offsets.e0), .d (.int .i8 s_17.offsets.e1), .d (.int .i8 s_17.offsets.e2), .d (.int .i8 s_17.offsets.e3), .d (.sl (List.map TSync.enc s_17.syncs)), .d (.int .u8 s_17.wrong)]]), (200002, .pure true 53 3 (List.map TTrace.enc v3482)), (200003, .expl true 53 3 [[.d (.int .i64 r3793), .d (.int .i64 1), .d (.sl (List.map TSpan.enc r3794))]])]) s) (fun s : Bool => J17_4 N3838 v3829 v3482 r3793 r3794 N3665 v3483 s) ?_ ?_
        · refine AW.regdL follows_mixed [[], [0], [0, 1], [0, 1, 2], [0, 1, 2], [0, 1, 2, 4], [0, 1, 2, 3, 4, 5], [0, 1, 2, 3, 4, 5, 6], [0, 1, 2, 3, 4, 5, 6, 7], [0, 1, 2], [0, 1, 2, 9], [0, 1, 2, 3, 4, 5, 6, 7, 8, 9, 10], [0, 1, 2, 3, 4, 5, 6, 7, 8, 9, 10, 11]] [(0, none), (1, none), (2, none), (3, none), (4, none), (5, none), (6, none), (7, none), (8, none), (9, none), (10, none), (11, none), (12, none)] (by kernel_rfl) ?_
          refine l_ds 31 (.one (.d (.int .i64 v3829))) ?_
          refine l_ds 32 (.one (.d (.bool (decide (v3829 > 0))))) ?_
          refine l_ds 33 (.one (.d (.bool (decide (v3829 > 0))))) ?_
          refine l_split (s := 33) (by kernel_rfl) h (fun h => ?_) (fun h => ?_)
          · refine l_ds 34 (.one (.view 200002 0 0 ((List.map TTrace.enc v3482).length))) ?_
            refine l_ds 35 (.one (.d (.int .i64 v3829))) ?_
            refine l_ds 36 (.one (.d (.int .i64 (w64 (v3829 - 1))))) ?_
            obtain ⟨h1241, x3846, h1242, h⟩ := h
            refine l_spec (some 37) (.iad 3 (.t 34) (.t 36)) (.one (.ref 200002 0 ((w64 (v3829 - 1)).toNat) 0), []) (by kernel_rfl) (detA_none (d_iad_v (enc := TTrace.enc) (k := .i64) (E := 53) (l := true) (ys := dmm (List.map TTrace.enc v3482)) v3482 x3846 (by kernel_rfl) (by kernel_rfl) (by kernel_rfl) (by kernel_rfl) h1241 h1242)) ?_
            refine l_ds 38 (.one (.ref 200002 0 ((w64 (v3829 - 1)).toNat) 0)) ?_
            refine l_spec (some 39) (.ld false 1 (.t 38)) (.one (.d (.int .i64 x3846.id)), []) (by kernel_rfl) (detA_none (d_ld_row (enc := TTrace.enc) (o := 200002) (g := 0) (i := ((w64 (v3829 - 1)).toNat)) (off := 0) (E := 53) (sz := 3) (l := true) v3482 x3846 (by kernel_rfl) (by kernel_rfl) (by kernel_rfl) h1242 (by kernel_rfl))) ?_
            refine l_ds 40 (.one (.ref 200003 0 0 0)) ?_
            refine l_ds 41 (.one (.d (.int .i64 r3793))) ?_
            refine l_ds 42 (.one (.d (.bool (decide (x3846.id > r3793))))) ?_
            refine l_ds 43 (.one (.d (.bool (decide (x3846.id > r3793))))) ?_
            refine l_nil ?_
            refine q_fall ?_
            exact Lab.m (decide (x3846.id > r3793)) [(200001, some 200001), (200002, some 200002), (200003, some 200003)] h
          · refine l_ds 34 (.tup []) ?_
            refine l_ds 35 (.tup []) ?_
            refine l_ds 36 (.tup []) ?_
            refine l_ds 37 (.tup []) ?_
            refine l_ds 38 (.tup []) ?_
            refine l_ds 39 (.tup []) ?_
            refine l_ds 40 (.tup []) ?_
            refine l_ds 41 (.tup []) ?_
            refine l_ds 42 (.tup []) ?_
            refine l_ds 43 (.one (.d (.bool false))) ?_
            refine l_nil ?_
            refine q_fall ?_
            exact Lab.m false [(200001, some 200001), (200002, some 200002), (200003, some 200003)] h
        · rintro v3845 h
          have h : J17_4 N3838 v3829 v3482 r3793 r3794 N3665 v3483 v3845 := h
          unfold J17_4 at h
          refine AW.cond' (by kernel_rfl) h (fun h => ?_) (fun h => ?_)
          · refine AW.skip ?_
            refine q_fall ?_
            refine AW.blk ?_
            refine AW.regL [(0, none), (1, none), (2, none)] (by kernel_rfl) ?_
            refine l_ds 44 (.one (.d (.int .i64 v3829))) ?_
            refine l_ds 45 (.one (.d (.int .i64 (w64 (v3829 - 1))))) ?_
            refine l_ds 6 (.one (.d (.int .i64 (w64 (v3829 - 1))))) ?_
            refine l_nil ?_
            refine q_bfall ?_
            refine q_fall ?_
            exact Lab.m (w64 (v3829 - 1)) [(200001, some 200001), (200002, some 200002), (200003, some 200003)] h
          · refine AW.exit ?_
            refine q_exit ?_
            refine q_exit ?_
            refine q_bhere ?_
            refine q_fall ?_
            refine AW.regdL follows_mixed [[], [], [], [1, 2], [0, 1, 2, 3], [], [5], [0, 1, 2, 3, 4, 5, 6], [], [], [8, 9], [0, 1, 2, 3, 4, 5, 6, 7, 8, 9, 10], [0, 1, 2, 3, 4, 5, 6, 7, 8, 9, 10, 11]] [(1, none), (2, none), (3, some [49, 1200002]), (5, some [51, 1200002, 1200003]), (8, none), (9, none), (10, some [56, 1200002]), (0, some [46]), (4, some [46, 50, 1200002]), (6, some [52]), (7, some [46, 53, 1000052]), (11, none), (12, none)] (by kernel_rfl) ?_
            refine l_ds 47 (.one (.view 200002 0 0 ((List.map TTrace.enc v3482).length))) ?_
            refine l_ds 48 (.one (.d (.int .i64 v3829))) ?_
            obtain ⟨h1232, h1233, h⟩ := h
            refine l_spec (some 49) (.slc 3 (.t 47) none (some (.t 48)) none) (.one (.view 200002 0 0 (v3829.toNat - 0)), []) (by kernel_rfl) (detA_some (d_slc_vf (enc := TTrace.enc) (E := 53) (l := true) (ys := dmm (List.map TTrace.enc v3482)) (lo' := none) (hi' := (some v3829)) v3482 (by kernel_rfl) (by kernel_rfl) (by kernel_rfl) (by kernel_rfl) (by kernel_rfl) (b_hi h1232 h1233)) (by kernel_rfl)) ?_
            refine l_ds 51 (.agg [.d (.int .i64 r3793), .d (.int .i64 1), .d (.sl (List.map TSpan.enc r3794))]) ?_
            refine l_ds 54 (.one (.view 200002 0 0 ((List.map TTrace.enc v3482).length))) ?_
            refine l_ds 55 (.one (.d (.int .i64 v3829))) ?_
            obtain ⟨h1235, h1236, h⟩ := h
            refine l_spec (some 56) (.slc 3 (.t 54) (some (.t 55)) none none) (.one (.view 200002 0 v3829.toNat (v3482.length - v3829.toNat)), []) (by kernel_rfl) (detA_some (d_slc_vf (enc := TTrace.enc) (E := 53) (l := true) (ys := dmm (List.map TTrace.enc v3482)) (lo' := (some v3829)) (hi' := none) v3482 (by kernel_rfl) (by kernel_rfl) (by kernel_rfl) (by kernel_rfl) (by kernel_rfl) (b_lo h1235 h1236)) (by kernel_rfl)) ?_
            refine l_det (some 46) (.one (.view 46 1 0 0), [(46, 1, .row true 53 3 [])]) (by kernel_rfl) ?_
            obtain ⟨h1238, h⟩ := h
            refine l_spec (some 50) (.app 53 3 40 [.int .i64 0, .int .i64 0, .nils] (.t 46) (.t 49)) (.one (.view 46 2 0 ((List.map TTrace.enc ([] ++ (List.take (v3829.toNat - 0) (List.drop 0 v3482)))).length)), [(46, 2, .row true 53 3 (dmm (List.map TTrace.enc ([] ++ (List.take (v3829.toNat - 0) (List.drop 0 v3482))))))]) (by kernel_rfl) (detA_some (d_app_v (enc := TTrace.enc) (xc := .view 200002 0 0 (v3829.toNat - 0)) [] (List.take (v3829.toNat - 0) (List.drop 0 v3482)) (by kernel_rfl) (by kernel_rfl) (by kernel_rfl) (by kernel_rfl) (e_part (E := 53) (l := true) v3482 (by kernel_rfl) (by kernel_rfl) (by simp only [List.length_map] at *; omega)) h1238 (by kernel_rfl)) (by kernel_rfl)) ?_
            refine l_det (some 52) (.one (.view 52 1 0 1), [(52, 1, .row true 53 3 [[.d (.int .i64 r3793), .d (.int .i64 1), .d (.sl (List.map TSpan.enc r3794))]])]) (by kernel_rfl) ?_
            obtain ⟨h1239, h⟩ := h
            refine l_spec (some 53) (.app 53 3 40 [.int .i64 0, .int .i64 0, .nils] (.t 50) (.t 52)) (.one (.view 46 3 0 ((List.map TTrace.enc (([] ++ (List.take (v3829.toNat - 0) (List.drop 0 v3482))) ++ [(TTrace.mk r3793 1 r3794)])).length)), [(46, 3, .row true 53 3 (dmm (List.map TTrace.enc (([] ++ (List.take (v3829.toNat - 0) (List.drop 0 v3482))) ++ [(TTrace.mk r3793 1 r3794)]))))]) (by kernel_rfl) (detA_some (d_app_v (enc := TTrace.enc) (xc := .view 52 1 0 1) ([] ++ (List.take (v3829.toNat - 0) (List.drop 0 v3482))) [(TTrace.mk r3793 1 r3794)] (by kernel_rfl) (by kernel_rfl) (by kernel_rfl) (by kernel_rfl) (by kernel_rfl) h1239 (by kernel_rfl)) (by kernel_rfl)) ?_
            obtain ⟨h1240, h⟩ := h
            refine l_spec (some 57) (.app 53 3 40 [.int .i64 0, .int .i64 0, .nils] (.t 53) (.t 56)) (.one (.view 46 4 0 ((List.map TTrace.enc ((([] ++ (List.take (v3829.toNat - 0) (List.drop 0 v3482))) ++ [(TTrace.mk r3793 1 r3794)]) ++ (List.take (v3482.length - v3829.toNat) (List.drop v3829.toNat v3482)))).length)), [(46, 4, .row true 53 3 (dmm (List.map TTrace.enc ((([] ++ (List.take (v3829.toNat - 0) (List.drop 0 v3482))) ++ [(TTrace.mk r3793 1 r3794)]) ++ (List.take (v3482.length - v3829.toNat) (List.drop v3829.toNat v3482))))))]) (by kernel_rfl) (detA_none (d_app_v (enc := TTrace.enc) (xc := .view 200002 0 v3829.toNat (v3482.length - v3829.toNat)) (([] ++ (List.take (v3829.toNat - 0) (List.drop 0 v3482))) ++ [(TTrace.mk r3793 1 r3794)]) (List.take (v3482.length - v3829.toNat) (List.drop v3829.toNat v3482)) (by kernel_rfl) (by kernel_rfl) (by kernel_rfl) (by kernel_rfl) (e_part (E := 53) (l := true) v3482 (by kernel_rfl) (by kernel_rfl) (by simp only [List.length_map] at *; omega)) h1240 (by kernel_rfl))) ?_
            refine l_ds 3 (.one (.view 46 4 0 ((List.map TTrace.enc ((([] ++ (List.take (v3829.toNat - 0) (List.drop 0 v3482))) ++ [(TTrace.mk r3793 1 r3794)]) ++ (List.take (v3482.length - v3829.toNat) (List.drop v3829.toNat v3482)))).length))) ?_
            refine l_nil ?_
            refine q_bfall ?_
            refine q_fall ?_
            exact Lab.m ((([] ++ (List.take (v3829.toNat - 0) (List.drop 0 v3482))) ++ [(TTrace.mk r3793 1 r3794)]) ++ (List.take (v3482.length - v3829.toNat) (List.drop v3829.toNat v3482))) [(200001, some 200001), (200002, some 46)] h
    · rintro v3786 h
      have h : J17_2 N3665 v3483 v3786 := h
      unfold J17_2 at h
      refine AW.regL [(0, none), (1, none), (2, none)] (by kernel_rfl) ?_
      refine l_ds 12 (.one (.d (.int .i64 v3483))) ?_
      refine l_ds 13 (.one (.d (.int .i64 (w64 (v3483 + 1))))) ?_
      refine l_ds 4 (.one (.d (.int .i64 (w64 (v3483 + 1))))) ?_
      refine l_nil ?_
      refine q_fall ?_
      exact Lab.m (v3786, (w64 (v3483 + 1))) [(200001, some 200001), (200002, some 200002)] h
  · refine AW.exit ?_
    refine q_exit ?_
    refine q_exit ?_
    refine q_bhere ?_
    refine q_fall ?_
    refine AW.sregL [(0, none), (1, none)] (by kernel_rfl) ?_
    refine l_ds 58 (.one (.view 200002 0 0 ((List.map TTrace.enc v3482).length))) ?_
    refine l_ds 2 (.one (.view 200002 0 0 ((List.map TTrace.enc v3482).length))) ?_
    refine l_nil ?_
    refine AW.ret ?_
    exact q_end [.one (.view 200002 0 0 ((List.map TTrace.enc v3482).length))] [true] [.one (.own 53 3 (List.map TTrace.enc v3482))] [] [] (by kernel_rfl) (ps_own (by kernel_rfl) (by kernel_rfl) rfl ps_nil) (by kernel_rfl) (by kernel_rfl) (by kernel_rfl) (by kernel_rfl) (Eq.mp (by kernel_rfl) (hK v3482 h)) (.inr rfl)
def r13_0 : List AR := [⟨some 2, .box 27 true 7 (.t 0), [], none⟩,
  ⟨some 3, .box 28 true 3 (.t 1), [], none⟩,
  ⟨some 4, .mov (.c .nils), [], none⟩]
def r13_1 : List AR := [⟨some 7, .ld true 7 (.t 2), [], none⟩,
  ⟨some 8, .call 16 [.t 7], [0], none⟩,
  ⟨some 9, .un .not (.t 8), [1], none⟩]
def r13_2 : List AR := [⟨some 4, .mov (.c .nils), [], none⟩]
def r13_3 : List AR := [⟨some 10, .ld true 7 (.t 2), [], none⟩,
  ⟨some 11, .call 17 [.t 10], [0], none⟩,
  ⟨some 5, .mov (.t 11), [1, 1, 0, 1], none⟩]
def r13_4 : List AR := [⟨some 6, .mov (.c (.int .i64 0)), [], none⟩]
def r13_5 : List AR := [⟨some 12, .mov (.t 6), [], none⟩,
  ⟨some 13, .mov (.t 5), [], none⟩,
  ⟨some 14, .lens (.t 13), [1], none⟩,
  ⟨some 15, .bin .lss (.t 12) (.t 14), [0, 2], none⟩]
def r13_6 : List AR := [⟨some 18, .mov (.t 5), [], none⟩,
  ⟨some 19, .mov (.t 6), [], none⟩,
  ⟨some 20, .mov (.t 6), [], none⟩,
  ⟨some 21, .bin .rem (.t 20) (.c (.int .i64 3)), [2], none⟩,
  ⟨some 22, .iaa 3 1 (.t 3) (.t 21), [3], none⟩,
  ⟨some 23, .ld false 1 (.t 22), [4], none⟩,
  ⟨some 24, .bin .rem (.t 23) (.c (.int .u8 16)), [5], none⟩,
  ⟨some 25, .cvi .i64 (.t 24), [6], none⟩,
  ⟨some 26, .bin .add (.c (.int .i64 1)) (.t 25), [7], none⟩,
  ⟨some 27, .iad 3 (.t 18) (.t 19), [0, 1, 0, 1, 2, 3, 4, 5, 6, 7, 8], none⟩,
  ⟨some 28, .fad (.t 27) 1, [9, 0, 1, 2, 3, 4, 5, 6, 7, 8], none⟩,
  ⟨none, .st 1 (.t 28) (.t 26), [10, 8, 0, 1, 2, 3, 4, 5, 6, 7, 8], none⟩]
def r13_7 : List AR := [⟨some 16, .mov (.t 6), [], none⟩,
  ⟨some 17, .bin .add (.t 16) (.c (.int .i64 1)), [0], none⟩,
  ⟨some 6, .mov (.t 17), [1, 0, 1], none⟩]
def r13_8 : List AR := [⟨some 29, .mov (.t 5), [], none⟩,
  ⟨some 4, .mov (.t 29), [0, 0], none⟩]
def c13 : ACode := .seq (.reg r13_0 false) (.seq (.seq (.reg r13_1 false) (.cond (.t 9) (.seq (.reg r13_2 false) (.ret)) (.skip))) (.seq (.reg r13_3 false) (.seq (.seq (.reg r13_4 false) (.blk 0 (.loop (.seq (.seq (.reg r13_5 false) (.cond (.t 15) (.skip) (.exit 0))) (.seq (.blk 1 (.reg r13_6 false)) (.reg r13_7 false)))))) (.seq (.reg r13_8 false) (.ret)))))
theorem body13 : Try.f13.body.map (comp Try.prog 30) = some c13 := by kernel_rfl
theorem res13 : allSome (Try.f13.results.toList.map (compRes Try.prog)) = some [.s 4] := by kernel_rfl
theorem cok13 {S : FSpec} (h : ∀ args K, S args K → args.all argOk = true ∧ args.length ≤ 30 ∧ AW Try.prog 30 (some ownP) c13 (initS args) (retPost [.s 4] args K)) : COK Try.prog 13 S := of_body Try.func13 Try.ntmps13 body13 res13 h

def L13_1 (weights_13 : TA28) (K : (List TTrace) → Prop) (v3864 : List TTrace) (v3865 : Int) (N3870 : ((List TTrace) × Int) → Prop) : Prop :=
  Cond (decide (v3865 < (v3864.length : Int))) (Idx ([weights_13.e0, weights_13.e1, weights_13.e2] : List Int) (Int.tmod v3865 3) fun x3873 => Idx v3864 v3865 fun x3874 => N3870 ((List.set v3864 v3865.toNat (TTrace.mk x3874.id (w64 (1 + (w64 (Int.tmod x3873 16)))) x3874.spans)), (w64 (v3865 + 1)))) (K v3864)

/-- sleuth/sleuthlaw25.weighted -/
def W13 (s_13 : TStory) (weights_13 : TA28) (K : (List TTrace) → Prop) : Prop :=
  W16 s_13 fun r2404 => Cond (!r2404) (K []) (W17 s_13 fun r3848 => LoopW (fun (s : ((List TTrace) × Int)) N3870 => L13_1 weights_13 K s.1 s.2 N3870) (r3848, 0))

def S13 : FSpec := fun args K => ∃ (s_13 : TStory), ∃ (weights_13 : TA28), ∃ (Kr : (List TTrace) → Prop), args = [.agg (List.map RC.d (TStory.enc s_13)), .agg (List.map RC.d (TA28.enc weights_13))] ∧ W13 s_13 weights_13 Kr ∧ ∀ r, Kr r → K (.one (.own 53 3 (List.map TTrace.enc r))) []

theorem en13 : enters Try.prog 13 = true := by unfold enters; rw [Try.func13]; rfl
theorem cl13 (s_13 : TStory) (weights_13 : TA28) {Kr : (List TTrace) → Prop} (h : W13 s_13 weights_13 Kr) : S13 [.agg (List.map RC.d (TStory.enc s_13)), .agg (List.map RC.d (TA28.enc weights_13))] (fun rv rows => ∃ r, rv = (.one (.own 53 3 (List.map TTrace.enc r))) ∧ rows = [] ∧ Kr r) := ⟨s_13, weights_13, Kr, rfl, h, fun r hr => ⟨r, rfl, rfl, hr⟩⟩

theorem ok13 : COK Try.prog 13 S13 := by
  refine cok13 fun args K0 hS => ?_
  obtain ⟨s_13, weights_13, K, rfl, h, hK⟩ := hS
  refine ⟨by kernel_rfl, by simp, ?_⟩
  unfold W13 at h
  refine AW.sregL [(0, none), (1, none), (2, none)] (by kernel_rfl) ?_
  refine l_det (some 2) (.one (.ref 2 1 0 0), [(2, 1, .row true 27 7 [[.d (.sl (List.map TTree.enc s_13.trees)), .d (.int .i8 s_13.offsets.e0), .d (.int .i8 s_13.offsets.e1), .d (.int .i8 s_13.offsets.e2), .d (.int .i8 s_13.offsets.e3), .d (.sl (List.map TSync.enc s_13.syncs)), .d (.int .u8 s_13.wrong)]])]) (by kernel_rfl) ?_
  refine l_det (some 3) (.one (.ref 3 1 0 0), [(3, 1, .row true 28 3 [[.d (.int .u8 weights_13.e0), .d (.int .u8 weights_13.e1), .d (.int .u8 weights_13.e2)]])]) (by kernel_rfl) ?_
  refine l_ds 4 (.one (.nils)) ?_
  refine l_nil ?_
  refine AW.seq ?_
  refine AW.sregL [(0, none), (1, none), (2, none)] (by kernel_rfl) ?_
  refine l_ds 7 (.agg [.d (.sl (List.map TTree.enc s_13.trees)), .d (.int .i8 s_13.offsets.e0), .d (.int .i8 s_13.offsets.e1), .d (.int .i8 s_13.offsets.e2), .d (.int .i8 s_13.offsets.e3), .d (.sl (List.map TSync.enc s_13.syncs)), .d (.int .u8 s_13.wrong)]) ?_
  refine l_call ok16 en16 (some 8) [.agg [.d (.sl (List.map TTree.enc s_13.trees)), .d (.int .i8 s_13.offsets.e0), .d (.int .i8 s_13.offsets.e1), .d (.int .i8 s_13.offsets.e2), .d (.int .i8 s_13.offsets.e3), .d (.sl (List.map TSync.enc s_13.syncs)), .d (.int .u8 s_13.wrong)]] [false] [.agg (List.map RC.d [.sl (List.map TTree.enc s_13.trees), .int .i8 s_13.offsets.e0, .int .i8 s_13.offsets.e1, .int .i8 s_13.offsets.e2, .int .i8 s_13.offsets.e3, .sl (List.map TSync.enc s_13.syncs), .int .u8 s_13.wrong])] [] (by kernel_rfl) ⟨by kernel_rfl, by kernel_rfl⟩ (by kernel_rfl) (by kernel_rfl) (by kernel_rfl) (cl16 s_13 h) ?_
  rintro hR _ _ ⟨r2404, rfl, rfl, h⟩
  refine ⟨false, (.one (.d (.bool r2404)), []), (fun hz => (by cases hz)), (ret_R hR (by kernel_rfl)), ?_⟩
  refine l_ds 9 (.one (.d (.bool (!r2404)))) ?_
  refine l_nil ?_
  refine AW.cond' (by kernel_rfl) h (fun h => ?_) (fun h => ?_)
  · refine AW.sregL [(0, none)] (by kernel_rfl) ?_
    refine l_ds 4 (.one (.nils)) ?_
    refine l_nil ?_
    refine AW.sim (F := [(299999, none)]) (T := [(4, .one (.view 299999 0 0 ((List.map TTrace.enc []).length)))]) (O := [(299999, .pure true 53 3 (List.map TTrace.enc []))]) ⟨by kernel_rfl, by kernel_rfl, by kernel_rfl, by kernel_rfl⟩ ?_
    refine AW.ret ?_
    refine q_ret ?_
    exact q_end [.one (.view 299999 0 0 ((List.map TTrace.enc []).length))] [true] [.one (.own 53 3 (List.map TTrace.enc []))] [] [] (by kernel_rfl) (ps_own (by kernel_rfl) (by kernel_rfl) rfl ps_nil) (by kernel_rfl) (by kernel_rfl) (by kernel_rfl) (by kernel_rfl) (Eq.mp (by kernel_rfl) (hK [] h)) (.inr rfl)
  · refine AW.skip ?_
    refine q_fall ?_
    refine AW.sregL [(0, none), (1, none), (2, none)] (by kernel_rfl) ?_
    refine l_ds 10 (.agg [.d (.sl (List.map TTree.enc s_13.trees)), .d (.int .i8 s_13.offsets.e0), .d (.int .i8 s_13.offsets.e1), .d (.int .i8 s_13.offsets.e2), .d (.int .i8 s_13.offsets.e3), .d (.sl (List.map TSync.enc s_13.syncs)), .d (.int .u8 s_13.wrong)]) ?_
    refine l_call ok17 en17 (some 11) [.agg [.d (.sl (List.map TTree.enc s_13.trees)), .d (.int .i8 s_13.offsets.e0), .d (.int .i8 s_13.offsets.e1), .d (.int .i8 s_13.offsets.e2), .d (.int .i8 s_13.offsets.e3), .d (.sl (List.map TSync.enc s_13.syncs)), .d (.int .u8 s_13.wrong)]] [false] [.agg (List.map RC.d [.sl (List.map TTree.enc s_13.trees), .int .i8 s_13.offsets.e0, .int .i8 s_13.offsets.e1, .int .i8 s_13.offsets.e2, .int .i8 s_13.offsets.e3, .sl (List.map TSync.enc s_13.syncs), .int .u8 s_13.wrong])] [] (by kernel_rfl) ⟨by kernel_rfl, by kernel_rfl⟩ (by kernel_rfl) (by kernel_rfl) (by kernel_rfl) (cl17 s_13 h) ?_
    rintro hR _ _ ⟨r3848, rfl, rfl, h⟩
    refine ⟨false, (.one (.view 11 1 0 ((List.map TTrace.enc r3848).length)), [(11, 1, .row true 53 3 (dmm (List.map TTrace.enc r3848)))]), (fun hz => (by cases hz)), (ret_R hR (by kernel_rfl)), ?_⟩
    refine l_ds 5 (.one (.view 11 1 0 ((List.map TTrace.enc r3848).length))) ?_
    refine l_nil ?_
    refine AW.seq ?_
    refine AW.sregL [(0, none)] (by kernel_rfl) ?_
    refine l_ds 6 (.one (.d (.int .i64 0))) ?_
    refine l_nil ?_
    refine AW.blk ?_
    refine AW.loopL (S := ((List TTrace) × Int)) (fun s => (fun (v3864 : List TTrace) (v3865 : Int) => [(3, .one (.ref 200001 0 0 0)), (5, .one (.view 200002 0 0 ((List.map TTrace.enc v3864).length))), (6, .one (.d (.int .i64 v3865)))]) s.1 s.2) (fun s => (fun (v3864 : List TTrace) (v3865 : Int) => [(200001, .expl true 28 3 [[.d (.int .u8 weights_13.e0), .d (.int .u8 weights_13.e1), .d (.int .u8 weights_13.e2)]]), (200002, .pure true 53 3 (List.map TTrace.enc v3864))]) s.1 s.2) (fun (s : ((List TTrace) × Int)) N3870 => L13_1 weights_13 K s.1 s.2 N3870) (N := fun s => LoopW (fun (s : ((List TTrace) × Int)) N3870 => L13_1 weights_13 K s.1 s.2 N3870) s) (Lab.m (r3848, 0) [(200001, some 3), (200002, some 11)] h) (fun _ h => h) ?_
    rintro ⟨v3864, v3865⟩ N3870 h
    have h : L13_1 weights_13 K v3864 v3865 N3870 := h
    unfold L13_1 at h
    refine AW.seq ?_
    refine AW.sregL [(0, none), (1, none), (2, none), (3, none)] (by kernel_rfl) ?_
    refine l_ds 12 (.one (.d (.int .i64 v3865))) ?_
    refine l_ds 13 (.one (.view 200002 0 0 ((List.map TTrace.enc v3864).length))) ?_
    refine l_spec (some 14) (.lens (.t 13)) (.one (.d (.int .i64 (v3864.length : Int))), []) (by kernel_rfl) (detA_none (d_lens_v (enc := TTrace.enc) (o := 200002) (g := 0) v3864 (by kernel_rfl))) ?_
    refine l_ds 15 (.one (.d (.bool (decide (v3865 < (v3864.length : Int)))))) ?_
    refine l_nil ?_
    refine AW.cond' (by kernel_rfl) h (fun h => ?_) (fun h => ?_)
    · refine AW.skip ?_
      refine q_fall ?_
      refine AW.seq ?_
      refine AW.blk ?_
      refine AW.regL [(0, none), (1, none), (2, none), (3, none), (4, none), (5, none), (6, none), (7, none), (8, none), (9, none), (10, none), (11, none)] (by kernel_rfl) ?_
      refine l_ds 18 (.one (.view 200002 0 0 ((List.map TTrace.enc v3864).length))) ?_
      refine l_ds 19 (.one (.d (.int .i64 v3865))) ?_
      refine l_ds 20 (.one (.d (.int .i64 v3865))) ?_
      refine l_ds 21 (.one (.d (.int .i64 (Int.tmod v3865 3)))) ?_
      obtain ⟨h54, x3873, h55, h⟩ := h
      refine l_spec (some 22) (.iaa 3 1 (.t 3) (.t 21)) (.one (.ref 200001 0 0 (0 + (Int.tmod v3865 3).toNat * 1)), []) (by kernel_rfl) (detA_none (d_iaa_ref (k := .i64) [weights_13.e0, weights_13.e1, weights_13.e2] (by kernel_rfl) (by kernel_rfl) h54 h55 (by kernel_rfl))) ?_
      refine l_spec (some 23) (.ld false 1 (.t 22)) (.one (.d (.int .u8 x3873)), []) (by kernel_rfl) (detA_none (d_ld_arr (o := 200001) (g := 0) (i := 0) (off := 0) (kk := (Int.tmod v3865 3).toNat) (E := 28) (sz := 3) (l := true) (rows := [[.d (.int .u8 weights_13.e0), .d (.int .u8 weights_13.e1), .d (.int .u8 weights_13.e2)]]) (cs := [.d (.int .u8 weights_13.e0), .d (.int .u8 weights_13.e1), .d (.int .u8 weights_13.e2)]) (rest := []) [weights_13.e0, weights_13.e1, weights_13.e2] x3873 (by kernel_rfl) (by kernel_rfl) (by kernel_rfl) (by kernel_rfl) (by kernel_rfl) h55)) ?_
      refine l_ds 24 (.one (.d (.int .u8 (Int.tmod x3873 16)))) ?_
      refine l_ds 25 (.one (.d (.int .i64 (w64 (Int.tmod x3873 16))))) ?_
      refine l_ds 26 (.one (.d (.int .i64 (w64 (1 + (w64 (Int.tmod x3873 16))))))) ?_
      obtain ⟨h56, x3874, h57, h⟩ := h
      refine l_spec (some 27) (.iad 3 (.t 18) (.t 19)) (.one (.ref 200002 0 v3865.toNat 0), []) (by kernel_rfl) (detA_none (d_iad_v (enc := TTrace.enc) (k := .i64) (E := 53) (l := true) (ys := dmm (List.map TTrace.enc v3864)) v3864 x3874 (by kernel_rfl) (by kernel_rfl) (by kernel_rfl) (by kernel_rfl) h56 h57)) ?_
      refine l_ds 28 (.one (.ref 200002 0 v3865.toNat 1)) ?_
      have h58 := set_get (TTrace.mk x3874.id (w64 (1 + (w64 (Int.tmod x3873 16)))) x3874.spans) h57
      refine l_spec none (.st 1 (.t 28) (.t 26)) (.tup [], [(200002, 0, .row true 53 3 (dmm (List.map TTrace.enc (List.set v3864 v3865.toNat (TTrace.mk x3874.id (w64 (1 + (w64 (Int.tmod x3873 16)))) x3874.spans)))))]) (by kernel_rfl) (detA_none (d_st_row (enc := TTrace.enc) (i := v3865.toNat) (off := 1) (vs := [.d (.int .i64 (w64 (1 + (w64 (Int.tmod x3873 16)))))]) v3864 x3874 (TTrace.mk x3874.id (w64 (1 + (w64 (Int.tmod x3873 16)))) x3874.spans) (by kernel_rfl) (by kernel_rfl) (by kernel_rfl) h57 (by kernel_rfl) (by kernel_rfl) (by kernel_rfl))) ?_
      refine l_renorm 5 (.one (.view 200002 0 0 ((List.map TTrace.enc (List.set v3864 v3865.toNat (TTrace.mk x3874.id (w64 (1 + (w64 (Int.tmod x3873 16)))) x3874.spans))).length))) (Eq.trans (b := .one (.view 200002 0 0 ((List.map TTrace.enc v3864).length))) (by kernel_rfl) (by simp only [List.length_map, List.length_set, List.length_cons, List.length_nil])) ?_
      refine l_nil ?_
      refine q_bfall ?_
      refine q_fall ?_
      refine AW.regL [(0, none), (1, none), (2, none)] (by kernel_rfl) ?_
      refine l_ds 16 (.one (.d (.int .i64 v3865))) ?_
      refine l_ds 17 (.one (.d (.int .i64 (w64 (v3865 + 1))))) ?_
      refine l_ds 6 (.one (.d (.int .i64 (w64 (v3865 + 1))))) ?_
      refine l_nil ?_
      refine q_fall ?_
      exact Lab.m ((List.set v3864 v3865.toNat (TTrace.mk x3874.id (w64 (1 + (w64 (Int.tmod x3873 16)))) x3874.spans)), (w64 (v3865 + 1))) [(200001, some 200001), (200002, some 200002)] h
    · refine AW.exit ?_
      refine q_exit ?_
      refine q_exit ?_
      refine q_bhere ?_
      refine q_fall ?_
      refine AW.sregL [(0, none), (1, none)] (by kernel_rfl) ?_
      refine l_ds 29 (.one (.view 200002 0 0 ((List.map TTrace.enc v3864).length))) ?_
      refine l_ds 4 (.one (.view 200002 0 0 ((List.map TTrace.enc v3864).length))) ?_
      refine l_nil ?_
      refine AW.ret ?_
      exact q_end [.one (.view 200002 0 0 ((List.map TTrace.enc v3864).length))] [true] [.one (.own 53 3 (List.map TTrace.enc v3864))] [] [] (by kernel_rfl) (ps_own (by kernel_rfl) (by kernel_rfl) rfl ps_nil) (by kernel_rfl) (by kernel_rfl) (by kernel_rfl) (by kernel_rfl) (Eq.mp (by kernel_rfl) (hK v3864 h)) (.inr rfl)
def r21_0 : List AR := [⟨some 2, .box 58 true 14 (.t 0), [], none⟩,
  ⟨some 4, .alloc 39 true [.str ⟨#[]⟩, .str ⟨#[]⟩, .str ⟨#[]⟩], [], none⟩]
def r21_1 : List AR := [⟨some 6, .fad (.t 2) 6, [], none⟩,
  ⟨some 7, .ld false 1 (.t 6), [0], none⟩,
  ⟨some 8, .fad (.t 2) 7, [], none⟩,
  ⟨some 9, .ld false 1 (.t 8), [2], none⟩,
  ⟨some 10, .fad (.t 2) 8, [], none⟩,
  ⟨some 11, .ld false 1 (.t 10), [4], none⟩,
  ⟨some 12, .bld [.str ⟨#[]⟩, .str ⟨#[]⟩, .str ⟨#[]⟩] [(0, 1, .t 7), (1, 1, .t 9), (2, 1, .t 11)], [1, 3, 5], none⟩,
  ⟨some 5, .alloc 39 true [.str ⟨#[]⟩, .str ⟨#[]⟩, .str ⟨#[]⟩], [], none⟩,
  ⟨none, .st 3 (.t 5) (.t 12), [7, 6, 0, 1, 2, 3, 4, 5, 6, 7], none⟩]
def r21_2 : List AR := [⟨some 13, .mov (.t 1), [], none⟩,
  ⟨some 14, .bin .neq (.t 13) (.c (.int .i64 2)), [0], none⟩]
def r21_3 : List AR := [⟨some 15, .fad (.t 5) 1, [], none⟩,
  ⟨none, .st 1 (.t 15) (.c (.str ⟨#[]⟩)), [0], none⟩]
def r21_4 : List AR := [⟨some 16, .mov (.t 1), [], none⟩,
  ⟨some 17, .bin .neq (.t 16) (.c (.int .i64 3)), [0], none⟩]
def r21_5 : List AR := [⟨some 18, .fad (.t 5) 2, [], none⟩,
  ⟨none, .st 1 (.t 18) (.c (.str ⟨#[]⟩)), [0], none⟩]
def r21_6 : List AR := [⟨some 19, .ld true 3 (.t 5), [], none⟩,
  ⟨none, .st 3 (.t 4) (.t 19), [0, 0], none⟩]
def c21 : ACode := .seq (.reg r21_0 false) (.seq (.reg r21_1 false) (.seq (.seq (.reg r21_2 false) (.cond (.t 14) (.reg r21_3 false) (.skip))) (.seq (.seq (.reg r21_4 false) (.cond (.t 17) (.reg r21_5 false) (.skip))) (.seq (.reg r21_6 false) (.ret)))))
theorem body21 : Try.f21.body.map (comp Try.prog 20) = some c21 := by kernel_rfl
theorem res21 : allSome (Try.f21.results.toList.map (compRes Try.prog)) = some [.c 4 true 3] := by kernel_rfl
theorem cok21 {S : FSpec} (h : ∀ args K, S args K → args.all argOk = true ∧ args.length ≤ 20 ∧ AW Try.prog 20 (some ownP) c21 (initS args) (retPost [.c 4 true 3] args K)) : COK Try.prog 21 S := of_body Try.func21 Try.ntmps21 body21 res21 h

def J21_2 (K : TGroup → Prop) (s_21 : TSpan) (v3881 : ByteArray) (v3882 : ByteArray) : Prop :=
  K (TGroup.mk s_21.service v3881 v3882)

def J21_1 (level_21 : Int) (K : TGroup → Prop) (s_21 : TSpan) (v3881 : ByteArray) : Prop :=
  Cond (decide (¬ level_21 = 3)) (J21_2 K s_21 v3881 (⟨#[]⟩ : ByteArray)) (J21_2 K s_21 v3881 s_21.operation)

/-- sleuth/sleuthlaw25.group -/
def W21 (s_21 : TSpan) (level_21 : Int) (K : TGroup → Prop) : Prop :=
  Cond (decide (¬ level_21 = 2)) (J21_1 level_21 K s_21 (⟨#[]⟩ : ByteArray)) (J21_1 level_21 K s_21 s_21.version)

def S21 : FSpec := fun args K => ∃ (s_21 : TSpan), ∃ (level_21 : Int), ∃ (Kr : TGroup → Prop), args = [.agg (List.map RC.d (TSpan.enc s_21)), .one (.d (.int .i64 level_21))] ∧ W21 s_21 level_21 Kr ∧ ∀ r, Kr r → K (.agg (List.map RC.d (TGroup.enc r))) []

theorem en21 : enters Try.prog 21 = true := by unfold enters; rw [Try.func21]; rfl
theorem cl21 (s_21 : TSpan) (level_21 : Int) {Kr : TGroup → Prop} (h : W21 s_21 level_21 Kr) : S21 [.agg (List.map RC.d (TSpan.enc s_21)), .one (.d (.int .i64 level_21))] (fun rv rows => ∃ r, rv = (.agg (List.map RC.d (TGroup.enc r))) ∧ rows = [] ∧ Kr r) := ⟨s_21, level_21, Kr, rfl, h, fun r hr => ⟨r, rfl, rfl, hr⟩⟩

theorem ok21 : COK Try.prog 21 S21 := by
  refine cok21 fun args K0 hS => ?_
  obtain ⟨s_21, level_21, K, rfl, h, hK⟩ := hS
  refine ⟨by kernel_rfl, by simp, ?_⟩
  unfold W21 at h
  refine AW.sregL [(0, none), (1, none)] (by kernel_rfl) ?_
  refine l_det (some 2) (.one (.ref 2 1 0 0), [(2, 1, .row true 58 14 [[.d (.int .i64 s_21.trace), .d (.int .i64 s_21.id), .d (.int .i64 s_21.parent), .d (.int .i64 s_21.revision), .d (.int .i64 s_21.clock), .d (.int .i64 s_21.kind), .d (.str s_21.service), .d (.str s_21.version), .d (.str s_21.operation), .d (.int .i64 s_21.start), .d (.int .i64 s_21.end_), .d (.bool s_21.error), .d (.sl (List.map TAttr.enc s_21.attrs)), .d (.sl (List.map TRef.enc s_21.links))]])]) (by kernel_rfl) ?_
  refine l_det (some 4) (.one (.ref 4 1 0 0), [(4, 1, .row true 39 3 [[.d (.str (⟨#[]⟩ : ByteArray)), .d (.str (⟨#[]⟩ : ByteArray)), .d (.str (⟨#[]⟩ : ByteArray))]])]) (by kernel_rfl) ?_
  refine l_nil ?_
  refine AW.sregL [(0, none), (1, none), (2, none), (3, none), (4, none), (5, none), (6, none), (7, none), (8, none)] (by kernel_rfl) ?_
  refine l_ds 6 (.one (.ref 2 1 0 6)) ?_
  refine l_ds 7 (.one (.d (.str s_21.service))) ?_
  refine l_ds 8 (.one (.ref 2 1 0 7)) ?_
  refine l_ds 9 (.one (.d (.str s_21.version))) ?_
  refine l_ds 10 (.one (.ref 2 1 0 8)) ?_
  refine l_ds 11 (.one (.d (.str s_21.operation))) ?_
  refine l_ds 12 (.agg [.d (.str s_21.service), .d (.str s_21.version), .d (.str s_21.operation)]) ?_
  refine l_det (some 5) (.one (.ref 5 1 0 0), [(5, 1, .row true 39 3 [[.d (.str (⟨#[]⟩ : ByteArray)), .d (.str (⟨#[]⟩ : ByteArray)), .d (.str (⟨#[]⟩ : ByteArray))]])]) (by kernel_rfl) ?_
  refine l_det none (.tup [], [(5, 1, .row true 39 3 [[.d (.str s_21.service), .d (.str s_21.version), .d (.str s_21.operation)]])]) (by kernel_rfl) ?_
  refine l_nil ?_
  refine AW.seqL (S := ByteArray) (fun s => (fun (v3881 : ByteArray) => [(1, .one (.d (.int .i64 level_21))), (4, .one (.ref 200001 0 0 0)), (5, .one (.ref 200002 0 0 0))]) s) (fun s => (fun (v3881 : ByteArray) => [(200001, .expl true 39 3 [[.d (.str (⟨#[]⟩ : ByteArray)), .d (.str (⟨#[]⟩ : ByteArray)), .d (.str (⟨#[]⟩ : ByteArray))]]), (200002, .expl true 39 3 [[.d (.str s_21.service), .d (.str v3881), .d (.str s_21.operation)]])]) s) (fun s : ByteArray => J21_1 level_21 K s_21 s) ?_ ?_
  · refine AW.sregL [(0, none), (1, none)] (by kernel_rfl) ?_
    refine l_ds 13 (.one (.d (.int .i64 level_21))) ?_
    refine l_ds 14 (.one (.d (.bool (decide (¬ level_21 = 2))))) ?_
    refine l_nil ?_
    refine AW.cond' (by kernel_rfl) h (fun h => ?_) (fun h => ?_)
    · refine AW.regL [(0, none), (1, none)] (by kernel_rfl) ?_
      refine l_ds 15 (.one (.ref 5 1 0 1)) ?_
      refine l_det none (.tup [], [(5, 1, .row true 39 3 [[.d (.str s_21.service), .d (.str (⟨#[]⟩ : ByteArray)), .d (.str s_21.operation)]])]) (by kernel_rfl) ?_
      refine l_nil ?_
      refine q_fall ?_
      exact Lab.m (⟨#[]⟩ : ByteArray) [(200001, some 4), (200002, some 5)] h
    · refine AW.skip ?_
      refine q_fall ?_
      exact Lab.m s_21.version [(200001, some 4), (200002, some 5)] h
  · rintro v3881 h
    have h : J21_1 level_21 K s_21 v3881 := h
    unfold J21_1 at h
    refine AW.seqL (S := ByteArray) (fun s => (fun (v3882 : ByteArray) => [(4, .one (.ref 200001 0 0 0)), (5, .one (.ref 200002 0 0 0))]) s) (fun s => (fun (v3882 : ByteArray) => [(200001, .expl true 39 3 [[.d (.str (⟨#[]⟩ : ByteArray)), .d (.str (⟨#[]⟩ : ByteArray)), .d (.str (⟨#[]⟩ : ByteArray))]]), (200002, .expl true 39 3 [[.d (.str s_21.service), .d (.str v3881), .d (.str v3882)]])]) s) (fun s : ByteArray => J21_2 K s_21 v3881 s) ?_ ?_
    · refine AW.sregL [(0, none), (1, none)] (by kernel_rfl) ?_
      refine l_ds 16 (.one (.d (.int .i64 level_21))) ?_
      refine l_ds 17 (.one (.d (.bool (decide (¬ level_21 = 3))))) ?_
      refine l_nil ?_
      refine AW.cond' (by kernel_rfl) h (fun h => ?_) (fun h => ?_)
      · refine AW.regL [(0, none), (1, none)] (by kernel_rfl) ?_
        refine l_ds 18 (.one (.ref 200002 0 0 2)) ?_
        refine l_det none (.tup [], [(200002, 0, .row true 39 3 [[.d (.str s_21.service), .d (.str v3881), .d (.str (⟨#[]⟩ : ByteArray))]])]) (by kernel_rfl) ?_
        refine l_nil ?_
        refine q_fall ?_
        exact Lab.m (⟨#[]⟩ : ByteArray) [(200001, some 200001), (200002, some 200002)] h
      · refine AW.skip ?_
        refine q_fall ?_
        exact Lab.m s_21.operation [(200001, some 200001), (200002, some 200002)] h
    · rintro v3882 h
      have h : J21_2 K s_21 v3881 v3882 := h
      unfold J21_2 at h
      refine AW.sregL [(0, none), (1, none)] (by kernel_rfl) ?_
      refine l_ds 19 (.agg [.d (.str s_21.service), .d (.str v3881), .d (.str v3882)]) ?_
      refine l_det none (.tup [], [(200001, 0, .row true 39 3 [[.d (.str s_21.service), .d (.str v3881), .d (.str v3882)]])]) (by kernel_rfl) ?_
      refine l_nil ?_
      refine AW.ret ?_
      exact q_end [.agg [.d (.str s_21.service), .d (.str v3881), .d (.str v3882)]] [false] [.agg (List.map RC.d [.str s_21.service, .str v3881, .str v3882])] [] [] (by kernel_rfl) ⟨by kernel_rfl, by kernel_rfl⟩ (by kernel_rfl) (by kernel_rfl) (by kernel_rfl) (by kernel_rfl) (Eq.mp (by kernel_rfl) (hK (TGroup.mk s_21.service v3881 v3882) h)) (.inr rfl)
def r45_0 : List AR := [⟨some 4, .box 39 true 3 (.t 1), [], none⟩,
  ⟨some 6, .alloc 37 true [.int .i64 0, .int .i64 0, .int .i64 0, .int .i64 0], [], none⟩]
def r45_1 : List AR := [⟨some 7, .alloc 37 true [.int .i64 0, .int .i64 0, .int .i64 0, .int .i64 0], [], none⟩]
def r45_2 : List AR := [⟨some 8, .mov (.c (.int .i64 0)), [], none⟩]
def r45_3 : List AR := [⟨some 12, .mov (.t 8), [], none⟩,
  ⟨some 13, .mov (.t 0), [], none⟩,
  ⟨some 14, .lens (.t 13), [1], none⟩,
  ⟨some 15, .bin .lss (.t 12) (.t 14), [0, 2], none⟩]
def r45_4 : List AR := [⟨some 9, .mov (.c (.bool false)), [], none⟩]
def r45_5 : List AR := [⟨some 10, .mov (.c (.int .i64 0)), [], none⟩]
def r45_6 : List AR := [⟨some 18, .mov (.t 10), [], none⟩,
  ⟨some 19, .mov (.t 0), [], none⟩,
  ⟨some 20, .mov (.t 8), [], none⟩,
  ⟨some 21, .iad 3 (.t 19) (.t 20), [1, 2], none⟩,
  ⟨some 22, .fad (.t 21) 2, [3], none⟩,
  ⟨some 23, .ld false 1 (.t 22), [4], none⟩,
  ⟨some 24, .lens (.t 23), [5], none⟩,
  ⟨some 25, .bin .lss (.t 18) (.t 24), [0, 6], none⟩]
def r45_7 : List AR := [⟨some 28, .mov (.t 0), [], none⟩,
  ⟨some 29, .mov (.t 8), [], none⟩,
  ⟨some 30, .iad 3 (.t 28) (.t 29), [0, 1], none⟩,
  ⟨some 31, .fad (.t 30) 2, [2], none⟩,
  ⟨some 32, .ld false 1 (.t 31), [3], none⟩,
  ⟨some 33, .mov (.t 10), [], none⟩,
  ⟨some 34, .iad 14 (.t 32) (.t 33), [4, 5], none⟩,
  ⟨some 35, .ld true 14 (.t 34), [6], none⟩,
  ⟨some 11, .alloc 58 true [.int .i64 0, .int .i64 0, .int .i64 0, .int .i64 0, .int .i64 0, .int .i64 0, .str ⟨#[]⟩, .str ⟨#[]⟩, .str ⟨#[]⟩, .int .i64 0, .int .i64 0, .bool false, .nils, .nils], [], none⟩,
  ⟨none, .st 14 (.t 11) (.t 35), [8, 7, 0, 1, 2, 3, 4, 5, 6, 7, 8], none⟩]
def r45_8 : List AR := [⟨some 36, .ld true 14 (.t 11), [], none⟩,
  ⟨some 37, .mov (.t 2), [], none⟩,
  ⟨some 38, .call 21 [.t 36, .t 37], [0, 1], none⟩,
  ⟨some 39, .ld true 3 (.t 4), [], none⟩,
  ⟨some 40, .eqs true [.s, .s, .s] (.t 38) (.t 39), [2, 3], none⟩]
def r45_9 : List AR := [⟨some 9, .mov (.c (.bool true)), [], none⟩]
def r45_10 : List AR := [⟨some 41, .fad (.t 7) 0, [], none⟩,
  ⟨some 42, .ld false 1 (.t 41), [0], none⟩,
  ⟨some 43, .mov (.t 0), [], none⟩,
  ⟨some 44, .mov (.t 8), [], none⟩,
  ⟨some 45, .iad 3 (.t 43) (.t 44), [2, 3], none⟩,
  ⟨some 46, .fad (.t 45) 1, [4], none⟩,
  ⟨some 47, .ld false 1 (.t 46), [5], none⟩,
  ⟨some 48, .bin .add (.t 42) (.t 47), [1, 6], none⟩,
  ⟨some 49, .fad (.t 7) 2, [], none⟩,
  ⟨some 50, .ld false 1 (.t 49), [8], none⟩,
  ⟨some 51, .mov (.t 0), [], none⟩,
  ⟨some 52, .mov (.t 8), [], none⟩,
  ⟨some 53, .iad 3 (.t 51) (.t 52), [10, 11], none⟩,
  ⟨some 54, .fad (.t 53) 1, [12], none⟩,
  ⟨some 55, .ld false 1 (.t 54), [13], none⟩,
  ⟨some 56, .fad (.t 11) 10, [], none⟩,
  ⟨some 57, .ld false 1 (.t 56), [15], none⟩,
  ⟨some 58, .fad (.t 11) 9, [], none⟩,
  ⟨some 59, .ld false 1 (.t 58), [17], none⟩,
  ⟨some 60, .bin .sub (.t 57) (.t 59), [16, 18], none⟩,
  ⟨some 61, .bin .mul (.t 55) (.t 60), [14, 19], none⟩,
  ⟨some 62, .bin .add (.t 50) (.t 61), [9, 20], none⟩,
  ⟨some 63, .fad (.t 7) 0, [0, 1, 2, 3, 4, 5, 6, 7, 8, 9], none⟩,
  ⟨none, .st 1 (.t 63) (.t 48), [22, 7, 0, 1, 2, 3, 4, 5, 6, 7, 8, 9], none⟩,
  ⟨some 64, .fad (.t 7) 2, [0, 1, 2, 3, 4, 5, 6, 7, 8, 9, 10, 11, 12, 13, 14, 15, 16, 17, 18, 19, 20, 21, 22, 23], none⟩,
  ⟨none, .st 1 (.t 64) (.t 62), [24, 21, 23, 0, 1, 2, 3, 4, 5, 6, 7, 8, 9, 10, 11, 12, 13, 14, 15, 16, 17, 18, 19, 20, 21, 22, 23], none⟩]
def r45_11 : List AR := [⟨some 65, .fad (.t 11) 11, [], none⟩,
  ⟨some 66, .ld false 1 (.t 65), [0], none⟩]
def r45_12 : List AR := [⟨some 67, .fad (.t 7) 1, [], none⟩,
  ⟨some 68, .ld false 1 (.t 67), [0], none⟩,
  ⟨some 69, .mov (.t 0), [], none⟩,
  ⟨some 70, .mov (.t 8), [], none⟩,
  ⟨some 71, .iad 3 (.t 69) (.t 70), [2, 3], none⟩,
  ⟨some 72, .fad (.t 71) 1, [4], none⟩,
  ⟨some 73, .ld false 1 (.t 72), [5], none⟩,
  ⟨some 74, .bin .add (.t 68) (.t 73), [1, 6], none⟩,
  ⟨some 75, .fad (.t 7) 1, [0, 1, 2, 3, 4, 5, 6, 7], none⟩,
  ⟨none, .st 1 (.t 75) (.t 74), [8, 7, 0, 1, 2, 3, 4, 5, 6, 7], none⟩]
def r45_13 : List AR := [⟨some 26, .mov (.t 10), [], none⟩,
  ⟨some 27, .bin .add (.t 26) (.c (.int .i64 1)), [0], none⟩,
  ⟨some 10, .mov (.t 27), [1, 0, 1], none⟩]
def r45_14 : List AR := [⟨some 76, .mov (.t 9), [], none⟩]
def r45_15 : List AR := [⟨some 77, .fad (.t 7) 3, [], none⟩,
  ⟨some 78, .ld false 1 (.t 77), [0], none⟩,
  ⟨some 79, .mov (.t 0), [], none⟩,
  ⟨some 80, .mov (.t 8), [], none⟩,
  ⟨some 81, .iad 3 (.t 79) (.t 80), [2, 3], none⟩,
  ⟨some 82, .fad (.t 81) 1, [4], none⟩,
  ⟨some 83, .ld false 1 (.t 82), [5], none⟩,
  ⟨some 84, .bin .add (.t 78) (.t 83), [1, 6], none⟩,
  ⟨some 85, .fad (.t 7) 3, [0, 1, 2, 3, 4, 5, 6, 7], none⟩,
  ⟨none, .st 1 (.t 85) (.t 84), [8, 7, 0, 1, 2, 3, 4, 5, 6, 7], none⟩]
def r45_16 : List AR := [⟨some 16, .mov (.t 8), [], none⟩,
  ⟨some 17, .bin .add (.t 16) (.c (.int .i64 1)), [0], none⟩,
  ⟨some 8, .mov (.t 17), [1, 0, 1], none⟩]
def r45_17 : List AR := [⟨some 86, .ld true 4 (.t 7), [], none⟩,
  ⟨none, .st 4 (.t 6) (.t 86), [0, 0], none⟩]
def c45 : ACode := .seq (.reg r45_0 false) (.seq (.reg r45_1 false) (.seq (.seq (.reg r45_2 false) (.blk 0 (.loop (.seq (.seq (.reg r45_3 false) (.cond (.t 15) (.skip) (.exit 0))) (.seq (.blk 1 (.seq (.reg r45_4 false) (.seq (.seq (.reg r45_5 false) (.blk 2 (.loop (.seq (.seq (.reg r45_6 false) (.cond (.t 25) (.skip) (.exit 2))) (.seq (.blk 3 (.seq (.reg r45_7 false) (.seq (.seq (.reg r45_8 true) (.cond (.t 40) (.exit 3) (.skip))) (.seq (.reg r45_9 false) (.seq (.reg r45_10 true) (.seq (.reg r45_11 false) (.cond (.t 66) (.reg r45_12 true) (.skip)))))))) (.reg r45_13 false)))))) (.seq (.reg r45_14 false) (.cond (.t 76) (.reg r45_15 true) (.skip)))))) (.reg r45_16 false)))))) (.seq (.reg r45_17 false) (.ret))))
theorem body45 : Try.f45.body.map (comp Try.prog 87) = some c45 := by kernel_rfl
theorem res45 : allSome (Try.f45.results.toList.map (compRes Try.prog)) = some [.c 6 true 4] := by kernel_rfl
theorem cok45 {S : FSpec} (h : ∀ args K, S args K → args.all argOk = true ∧ args.length ≤ 87 ∧ AW Try.prog 87 (some ownP) c45 (initS args) (retPost [.c 6 true 4] args K)) : COK Try.prog 45 S := of_body Try.func45 Try.ntmps45 body45 res45 h

def J45_2 (N6439 : (Int × Int × Int × Int × Int) → Prop) (v5930 : Int) (v6776 : Int) (v6777 : Int) (v6778 : Int) (v6779 : Int) : Prop :=
  N6439 (v6777, v6778, v6779, v6776, (w64 (v5930 + 1)))

def J45_4 (N6921 : (Int × Int × Int × Bool × Int) → Prop) (v6894 : Int) (v6938 : Int) (v6939 : Int) (v6940 : Int) (v6941 : Bool) : Prop :=
  N6921 (v6938, v6939, v6940, v6941, (w64 (v6894 + 1)))

def L45_3 (l_45 : List TTrace) (v5930 : Int) (level_45 : Int) (g_45 : TGroup) (N6439 : (Int × Int × Int × Int × Int) → Prop) (v5929 : Int) (v6890 : Int) (v6891 : Int) (v6892 : Int) (v6893 : Bool) (v6894 : Int) (N6921 : (Int × Int × Int × Bool × Int) → Prop) : Prop :=
  Idx l_45 v5930 fun x6925 => Cond (decide (v6894 < (x6925.spans.length : Int))) (Idx x6925.spans v6894 fun x6943 => W21 x6943 level_45 fun r6947 => Cond (!(decide (r6947.service = g_45.service) && (decide (r6947.version = g_45.version) && (decide (r6947.operation = g_45.operation) && true)))) (J45_4 N6921 v6894 v6890 v6891 v6892 v6893) (Cond x6943.error (J45_4 N6921 v6894 (w64 (v6890 + x6925.weight)) (w64 (v6891 + x6925.weight)) (w64 (v6892 + (w64 (x6925.weight * (w64 (x6943.end_ - x6943.start)))))) true) (J45_4 N6921 v6894 (w64 (v6890 + x6925.weight)) v6891 (w64 (v6892 + (w64 (x6925.weight * (w64 (x6943.end_ - x6943.start)))))) true))) (Cond v6893 (J45_2 N6439 v5930 (w64 (v5929 + x6925.weight)) v6890 v6891 v6892) (J45_2 N6439 v5930 v5929 v6890 v6891 v6892))

def L45_1 (l_45 : List TTrace) (level_45 : Int) (g_45 : TGroup) (K : TTotal → Prop) (v5926 : Int) (v5927 : Int) (v5928 : Int) (v5929 : Int) (v5930 : Int) (N6439 : (Int × Int × Int × Int × Int) → Prop) : Prop :=
  Cond (decide (v5930 < (l_45.length : Int))) (LoopW (fun (s : (Int × Int × Int × Bool × Int)) N6921 => L45_3 l_45 v5930 level_45 g_45 N6439 v5929 s.1 s.2.1 s.2.2.1 s.2.2.2.1 s.2.2.2.2 N6921) (v5926, v5927, v5928, false, 0)) (K (TTotal.mk v5926 v5927 v5928 v5929))

/-- sleuth/sleuthlaw25.total -/
def W45 (l_45 : List TTrace) (g_45 : TGroup) (level_45 : Int) (K : TTotal → Prop) : Prop :=
  LoopW (fun (s : (Int × Int × Int × Int × Int)) N6439 => L45_1 l_45 level_45 g_45 K s.1 s.2.1 s.2.2.1 s.2.2.2.1 s.2.2.2.2 N6439) (0, 0, 0, 0, 0)

def S45 : FSpec := fun args K => ∃ (l_45 : List TTrace), ∃ (g_45 : TGroup), ∃ (level_45 : Int), ∃ (Kr : TTotal → Prop), args = [.one (.d (.sl (List.map TTrace.enc l_45))), .agg (List.map RC.d (TGroup.enc g_45)), .one (.d (.int .i64 level_45))] ∧ W45 l_45 g_45 level_45 Kr ∧ ∀ r, Kr r → K (.agg (List.map RC.d (TTotal.enc r))) []

theorem en45 : enters Try.prog 45 = true := by unfold enters; rw [Try.func45]; rfl
theorem cl45 (l_45 : List TTrace) (g_45 : TGroup) (level_45 : Int) {Kr : TTotal → Prop} (h : W45 l_45 g_45 level_45 Kr) : S45 [.one (.d (.sl (List.map TTrace.enc l_45))), .agg (List.map RC.d (TGroup.enc g_45)), .one (.d (.int .i64 level_45))] (fun rv rows => ∃ r, rv = (.agg (List.map RC.d (TTotal.enc r))) ∧ rows = [] ∧ Kr r) := ⟨l_45, g_45, level_45, Kr, rfl, h, fun r hr => ⟨r, rfl, rfl, hr⟩⟩

theorem ok45 : COK Try.prog 45 S45 := by
  refine cok45 fun args K0 hS => ?_
  obtain ⟨l_45, g_45, level_45, K, rfl, h, hK⟩ := hS
  refine ⟨by kernel_rfl, by simp, ?_⟩
  unfold W45 at h
  refine AW.sregL [(0, none), (1, none)] (by kernel_rfl) ?_
  refine l_det (some 4) (.one (.ref 4 1 0 0), [(4, 1, .row true 39 3 [[.d (.str g_45.service), .d (.str g_45.version), .d (.str g_45.operation)]])]) (by kernel_rfl) ?_
  refine l_det (some 6) (.one (.ref 6 1 0 0), [(6, 1, .row true 37 4 [[.d (.int .i64 0), .d (.int .i64 0), .d (.int .i64 0), .d (.int .i64 0)]])]) (by kernel_rfl) ?_
  refine l_nil ?_
  refine AW.sregL [(0, none)] (by kernel_rfl) ?_
  refine l_det (some 7) (.one (.ref 7 1 0 0), [(7, 1, .row true 37 4 [[.d (.int .i64 0), .d (.int .i64 0), .d (.int .i64 0), .d (.int .i64 0)]])]) (by kernel_rfl) ?_
  refine l_nil ?_
  refine AW.seq ?_
  refine AW.sregL [(0, none)] (by kernel_rfl) ?_
  refine l_ds 8 (.one (.d (.int .i64 0))) ?_
  refine l_nil ?_
  refine AW.blk ?_
  refine AW.loopL (S := (Int × Int × Int × Int × Int)) (fun s => (fun (v5926 : Int) (v5927 : Int) (v5928 : Int) (v5929 : Int) (v5930 : Int) => [(0, .one (.d (.sl (List.map TTrace.enc l_45)))), (2, .one (.d (.int .i64 level_45))), (4, .one (.ref 200001 0 0 0)), (6, .one (.ref 200002 0 0 0)), (7, .one (.ref 200003 0 0 0)), (8, .one (.d (.int .i64 v5930)))]) s.1 s.2.1 s.2.2.1 s.2.2.2.1 s.2.2.2.2) (fun s => (fun (v5926 : Int) (v5927 : Int) (v5928 : Int) (v5929 : Int) (v5930 : Int) => [(200001, .expl true 39 3 [[.d (.str g_45.service), .d (.str g_45.version), .d (.str g_45.operation)]]), (200002, .expl true 37 4 [[.d (.int .i64 0), .d (.int .i64 0), .d (.int .i64 0), .d (.int .i64 0)]]), (200003, .expl true 37 4 [[.d (.int .i64 v5926), .d (.int .i64 v5927), .d (.int .i64 v5928), .d (.int .i64 v5929)]])]) s.1 s.2.1 s.2.2.1 s.2.2.2.1 s.2.2.2.2) (fun (s : (Int × Int × Int × Int × Int)) N6439 => L45_1 l_45 level_45 g_45 K s.1 s.2.1 s.2.2.1 s.2.2.2.1 s.2.2.2.2 N6439) (N := fun s => LoopW (fun (s : (Int × Int × Int × Int × Int)) N6439 => L45_1 l_45 level_45 g_45 K s.1 s.2.1 s.2.2.1 s.2.2.2.1 s.2.2.2.2 N6439) s) (Lab.m (0, 0, 0, 0, 0) [(200001, some 4), (200002, some 6), (200003, some 7)] h) (fun _ h => h) ?_
  rintro ⟨v5926, v5927, v5928, v5929, v5930⟩ N6439 h
  have h : L45_1 l_45 level_45 g_45 K v5926 v5927 v5928 v5929 v5930 N6439 := h
  unfold L45_1 at h
  refine AW.seq ?_
  refine AW.sregL [(0, none), (1, none), (2, none), (3, none)] (by kernel_rfl) ?_
  refine l_ds 12 (.one (.d (.int .i64 v5930))) ?_
  refine l_ds 13 (.one (.d (.sl (List.map TTrace.enc l_45)))) ?_
  refine l_spec (some 14) (.lens (.t 13)) (.one (.d (.int .i64 (l_45.length : Int))), []) (by kernel_rfl) (detA_none (d_lens_sl (enc := TTrace.enc) l_45 (by kernel_rfl))) ?_
  refine l_ds 15 (.one (.d (.bool (decide (v5930 < (l_45.length : Int)))))) ?_
  refine l_nil ?_
  refine AW.cond' (by kernel_rfl) h (fun h => ?_) (fun h => ?_)
  · refine AW.skip ?_
    refine q_fall ?_
    refine AW.seqL (S := (Int × Int × Int × Int)) (fun s => (fun (v6776 : Int) (v6777 : Int) (v6778 : Int) (v6779 : Int) => [(0, .one (.d (.sl (List.map TTrace.enc l_45)))), (2, .one (.d (.int .i64 level_45))), (4, .one (.ref 200001 0 0 0)), (6, .one (.ref 200002 0 0 0)), (7, .one (.ref 200003 0 0 0)), (8, .one (.d (.int .i64 v5930)))]) s.1 s.2.1 s.2.2.1 s.2.2.2) (fun s => (fun (v6776 : Int) (v6777 : Int) (v6778 : Int) (v6779 : Int) => [(200001, .expl true 39 3 [[.d (.str g_45.service), .d (.str g_45.version), .d (.str g_45.operation)]]), (200002, .expl true 37 4 [[.d (.int .i64 0), .d (.int .i64 0), .d (.int .i64 0), .d (.int .i64 0)]]), (200003, .expl true 37 4 [[.d (.int .i64 v6777), .d (.int .i64 v6778), .d (.int .i64 v6779), .d (.int .i64 v6776)]])]) s.1 s.2.1 s.2.2.1 s.2.2.2) (fun s : (Int × Int × Int × Int) => J45_2 N6439 v5930 s.1 s.2.1 s.2.2.1 s.2.2.2) ?_ ?_
    · refine AW.blk ?_
      refine AW.sregL [(0, none)] (by kernel_rfl) ?_
      refine l_ds 9 (.one (.d (.bool false))) ?_
      refine l_nil ?_
      refine AW.seq ?_
      refine AW.sregL [(0, none)] (by kernel_rfl) ?_
      refine l_ds 10 (.one (.d (.int .i64 0))) ?_
      refine l_nil ?_
      refine AW.blk ?_
      refine AW.loopL (S := (Int × Int × Int × Bool × Int)) (fun s => (fun (v6890 : Int) (v6891 : Int) (v6892 : Int) (v6893 : Bool) (v6894 : Int) => [(0, .one (.d (.sl (List.map TTrace.enc l_45)))), (2, .one (.d (.int .i64 level_45))), (4, .one (.ref 200001 0 0 0)), (6, .one (.ref 200002 0 0 0)), (7, .one (.ref 200003 0 0 0)), (8, .one (.d (.int .i64 v5930))), (9, .one (.d (.bool v6893))), (10, .one (.d (.int .i64 v6894)))]) s.1 s.2.1 s.2.2.1 s.2.2.2.1 s.2.2.2.2) (fun s => (fun (v6890 : Int) (v6891 : Int) (v6892 : Int) (v6893 : Bool) (v6894 : Int) => [(200001, .expl true 39 3 [[.d (.str g_45.service), .d (.str g_45.version), .d (.str g_45.operation)]]), (200002, .expl true 37 4 [[.d (.int .i64 0), .d (.int .i64 0), .d (.int .i64 0), .d (.int .i64 0)]]), (200003, .expl true 37 4 [[.d (.int .i64 v6890), .d (.int .i64 v6891), .d (.int .i64 v6892), .d (.int .i64 v5929)]])]) s.1 s.2.1 s.2.2.1 s.2.2.2.1 s.2.2.2.2) (fun (s : (Int × Int × Int × Bool × Int)) N6921 => L45_3 l_45 v5930 level_45 g_45 N6439 v5929 s.1 s.2.1 s.2.2.1 s.2.2.2.1 s.2.2.2.2 N6921) (N := fun s => LoopW (fun (s : (Int × Int × Int × Bool × Int)) N6921 => L45_3 l_45 v5930 level_45 g_45 N6439 v5929 s.1 s.2.1 s.2.2.1 s.2.2.2.1 s.2.2.2.2 N6921) s) (Lab.m (v5926, v5927, v5928, false, 0) [(200001, some 200001), (200002, some 200002), (200003, some 200003)] h) (fun _ h => h) ?_
      rintro ⟨v6890, v6891, v6892, v6893, v6894⟩ N6921 h
      have h : L45_3 l_45 v5930 level_45 g_45 N6439 v5929 v6890 v6891 v6892 v6893 v6894 N6921 := h
      unfold L45_3 at h
      refine AW.seq ?_
      refine AW.sregL [(0, none), (1, none), (2, none), (3, none), (4, none), (5, none), (6, none), (7, none)] (by kernel_rfl) ?_
      refine l_ds 18 (.one (.d (.int .i64 v6894))) ?_
      refine l_ds 19 (.one (.d (.sl (List.map TTrace.enc l_45)))) ?_
      refine l_ds 20 (.one (.d (.int .i64 v5930))) ?_
      obtain ⟨h3431, x6925, h3432, h⟩ := h
      refine l_spec (some 21) (.iad 3 (.t 19) (.t 20)) (.one (.d (.ptr [.int .i64 x6925.id, .int .i64 x6925.weight, .sl (List.map TSpan.enc x6925.spans)])), []) (by kernel_rfl) (detA_none (d_iad_sl (enc := TTrace.enc) (k := .i64) l_45 x6925 (by kernel_rfl) (by kernel_rfl) h3431 h3432 rfl)) ?_
      refine l_ds 22 (.one (.d (.ptr [.sl (List.map TSpan.enc x6925.spans)]))) ?_
      refine l_ds 23 (.one (.d (.sl (List.map TSpan.enc x6925.spans)))) ?_
      refine l_spec (some 24) (.lens (.t 23)) (.one (.d (.int .i64 (x6925.spans.length : Int))), []) (by kernel_rfl) (detA_none (d_lens_sl (enc := TSpan.enc) x6925.spans (by kernel_rfl))) ?_
      refine l_ds 25 (.one (.d (.bool (decide (v6894 < (x6925.spans.length : Int)))))) ?_
      refine l_nil ?_
      refine AW.cond' (by kernel_rfl) h (fun h => ?_) (fun h => ?_)
      · refine AW.skip ?_
        refine q_fall ?_
        refine AW.seqL (S := (Int × Int × Int × Bool)) (fun s => (fun (v6938 : Int) (v6939 : Int) (v6940 : Int) (v6941 : Bool) => [(0, .one (.d (.sl (List.map TTrace.enc l_45)))), (2, .one (.d (.int .i64 level_45))), (4, .one (.ref 200001 0 0 0)), (6, .one (.ref 200002 0 0 0)), (7, .one (.ref 200003 0 0 0)), (8, .one (.d (.int .i64 v5930))), (9, .one (.d (.bool v6941))), (10, .one (.d (.int .i64 v6894)))]) s.1 s.2.1 s.2.2.1 s.2.2.2) (fun s => (fun (v6938 : Int) (v6939 : Int) (v6940 : Int) (v6941 : Bool) => [(200001, .expl true 39 3 [[.d (.str g_45.service), .d (.str g_45.version), .d (.str g_45.operation)]]), (200002, .expl true 37 4 [[.d (.int .i64 0), .d (.int .i64 0), .d (.int .i64 0), .d (.int .i64 0)]]), (200003, .expl true 37 4 [[.d (.int .i64 v6938), .d (.int .i64 v6939), .d (.int .i64 v6940), .d (.int .i64 v5929)]])]) s.1 s.2.1 s.2.2.1 s.2.2.2) (fun s : (Int × Int × Int × Bool) => J45_4 N6921 v6894 s.1 s.2.1 s.2.2.1 s.2.2.2) ?_ ?_
        · refine AW.blk ?_
          refine AW.sregL [(0, none), (1, none), (2, none), (3, none), (4, none), (5, none), (6, none), (7, none), (8, none), (9, none)] (by kernel_rfl) ?_
          refine l_ds 28 (.one (.d (.sl (List.map TTrace.enc l_45)))) ?_
          refine l_ds 29 (.one (.d (.int .i64 v5930))) ?_
          refine l_spec (some 30) (.iad 3 (.t 28) (.t 29)) (.one (.d (.ptr [.int .i64 x6925.id, .int .i64 x6925.weight, .sl (List.map TSpan.enc x6925.spans)])), []) (by kernel_rfl) (detA_none (d_iad_sl (enc := TTrace.enc) (k := .i64) l_45 x6925 (by kernel_rfl) (by kernel_rfl) h3431 h3432 rfl)) ?_
          refine l_ds 31 (.one (.d (.ptr [.sl (List.map TSpan.enc x6925.spans)]))) ?_
          refine l_ds 32 (.one (.d (.sl (List.map TSpan.enc x6925.spans)))) ?_
          refine l_ds 33 (.one (.d (.int .i64 v6894))) ?_
          obtain ⟨h3451, x6943, h3452, h⟩ := h
          refine l_spec (some 34) (.iad 14 (.t 32) (.t 33)) (.one (.d (.ptr [.int .i64 x6943.trace, .int .i64 x6943.id, .int .i64 x6943.parent, .int .i64 x6943.revision, .int .i64 x6943.clock, .int .i64 x6943.kind, .str x6943.service, .str x6943.version, .str x6943.operation, .int .i64 x6943.start, .int .i64 x6943.end_, .bool x6943.error, .sl (List.map TAttr.enc x6943.attrs), .sl (List.map TRef.enc x6943.links)])), []) (by kernel_rfl) (detA_none (d_iad_sl (enc := TSpan.enc) (k := .i64) x6925.spans x6943 (by kernel_rfl) (by kernel_rfl) h3451 h3452 rfl)) ?_
          refine l_ds 35 (.agg [.d (.int .i64 x6943.trace), .d (.int .i64 x6943.id), .d (.int .i64 x6943.parent), .d (.int .i64 x6943.revision), .d (.int .i64 x6943.clock), .d (.int .i64 x6943.kind), .d (.str x6943.service), .d (.str x6943.version), .d (.str x6943.operation), .d (.int .i64 x6943.start), .d (.int .i64 x6943.end_), .d (.bool x6943.error), .d (.sl (List.map TAttr.enc x6943.attrs)), .d (.sl (List.map TRef.enc x6943.links))]) ?_
          refine l_det (some 11) (.one (.ref 11 1 0 0), [(11, 1, .row true 58 14 [[.d (.int .i64 0), .d (.int .i64 0), .d (.int .i64 0), .d (.int .i64 0), .d (.int .i64 0), .d (.int .i64 0), .d (.str (⟨#[]⟩ : ByteArray)), .d (.str (⟨#[]⟩ : ByteArray)), .d (.str (⟨#[]⟩ : ByteArray)), .d (.int .i64 0), .d (.int .i64 0), .d (.bool false), .nils, .nils]])]) (by kernel_rfl) ?_
          refine l_det none (.tup [], [(11, 1, .row true 58 14 [[.d (.int .i64 x6943.trace), .d (.int .i64 x6943.id), .d (.int .i64 x6943.parent), .d (.int .i64 x6943.revision), .d (.int .i64 x6943.clock), .d (.int .i64 x6943.kind), .d (.str x6943.service), .d (.str x6943.version), .d (.str x6943.operation), .d (.int .i64 x6943.start), .d (.int .i64 x6943.end_), .d (.bool x6943.error), .d (.sl (List.map TAttr.enc x6943.attrs)), .d (.sl (List.map TRef.enc x6943.links))]])]) (by kernel_rfl) ?_
          refine l_nil ?_
          refine AW.seq ?_
          refine AW.sregdL follows_mixed [[], [], [0, 1], [], [0, 1, 2, 3]] [(0, none), (1, none), (3, some [39, 1200001]), (2, some [38]), (4, none)] (by kernel_rfl) ?_
          refine l_ds 36 (.agg [.d (.int .i64 x6943.trace), .d (.int .i64 x6943.id), .d (.int .i64 x6943.parent), .d (.int .i64 x6943.revision), .d (.int .i64 x6943.clock), .d (.int .i64 x6943.kind), .d (.str x6943.service), .d (.str x6943.version), .d (.str x6943.operation), .d (.int .i64 x6943.start), .d (.int .i64 x6943.end_), .d (.bool x6943.error), .d (.sl (List.map TAttr.enc x6943.attrs)), .d (.sl (List.map TRef.enc x6943.links))]) ?_
          refine l_ds 37 (.one (.d (.int .i64 level_45))) ?_
          refine l_ds 39 (.agg [.d (.str g_45.service), .d (.str g_45.version), .d (.str g_45.operation)]) ?_
          refine l_call ok21 en21 (some 38) [.agg [.d (.int .i64 x6943.trace), .d (.int .i64 x6943.id), .d (.int .i64 x6943.parent), .d (.int .i64 x6943.revision), .d (.int .i64 x6943.clock), .d (.int .i64 x6943.kind), .d (.str x6943.service), .d (.str x6943.version), .d (.str x6943.operation), .d (.int .i64 x6943.start), .d (.int .i64 x6943.end_), .d (.bool x6943.error), .d (.sl (List.map TAttr.enc x6943.attrs)), .d (.sl (List.map TRef.enc x6943.links))], .one (.d (.int .i64 level_45))] [false, false] [.agg (List.map RC.d [.int .i64 x6943.trace, .int .i64 x6943.id, .int .i64 x6943.parent, .int .i64 x6943.revision, .int .i64 x6943.clock, .int .i64 x6943.kind, .str x6943.service, .str x6943.version, .str x6943.operation, .int .i64 x6943.start, .int .i64 x6943.end_, .bool x6943.error, .sl (List.map TAttr.enc x6943.attrs), .sl (List.map TRef.enc x6943.links)]), .one (.d (.int .i64 level_45))] [] (by kernel_rfl) ⟨by kernel_rfl, by kernel_rfl⟩ (by kernel_rfl) (by kernel_rfl) (by kernel_rfl) (cl21 x6943 level_45 h) ?_
          rintro hR _ _ ⟨r6947, rfl, rfl, h⟩
          refine ⟨false, (.agg [.d (.str r6947.service), .d (.str r6947.version), .d (.str r6947.operation)], []), (fun hz => (by cases hz)), (ret_R hR (by kernel_rfl)), ?_⟩
          refine l_ds 40 (.one (.d (.bool (!(decide (r6947.service = g_45.service) && (decide (r6947.version = g_45.version) && (decide (r6947.operation = g_45.operation) && true))))))) ?_
          refine l_nil ?_
          refine AW.cond' (by kernel_rfl) h (fun h => ?_) (fun h => ?_)
          · refine AW.exit ?_
            refine q_exit ?_
            refine q_bhere ?_
            refine q_fall ?_
            exact Lab.m (v6890, v6891, v6892, v6893) [(200001, some 200001), (200002, some 200002), (200003, some 200003)] h
          · refine AW.skip ?_
            refine q_fall ?_
            refine AW.sregL [(0, none)] (by kernel_rfl) ?_
            refine l_ds 9 (.one (.d (.bool true))) ?_
            refine l_nil ?_
            refine AW.sregdL follows_mixed [[], [0], [], [], [2, 3], [2, 3, 4], [2, 3, 4, 5], [0, 1, 2, 3, 4, 5, 6], [], [8], [], [], [10, 11], [10, 11, 12], [10, 11, 12, 13], [], [15], [], [17], [15, 16, 17, 18], [10, 11, 12, 13, 14, 15, 16, 17, 18, 19], [8, 9, 10, 11, 12, 13, 14, 15, 16, 17, 18, 19, 20], [0, 1, 2, 3, 4, 5, 6, 7, 8, 9], [0, 1, 2, 3, 4, 5, 6, 7, 8, 9, 22], [0, 1, 2, 3, 4, 5, 6, 7, 8, 9, 10, 11, 12, 13, 14, 15, 16, 17, 18, 19, 20, 21, 22, 23], [0, 1, 2, 3, 4, 5, 6, 7, 8, 9, 10, 11, 12, 13, 14, 15, 16, 17, 18, 19, 20, 21, 22, 23, 24]] [(0, none), (1, none), (2, none), (3, none), (4, none), (5, none), (6, none), (7, none), (8, none), (9, none), (10, none), (11, none), (12, some [53]), (13, none), (14, some [55]), (15, none), (16, some [57, 1000011]), (17, none), (18, some [59, 1000011]), (19, none), (20, none), (21, none), (22, none), (23, some [200003, 999999]), (24, none), (25, none)] (by kernel_rfl) ?_
            refine l_ds 41 (.one (.ref 200003 0 0 0)) ?_
            refine l_ds 42 (.one (.d (.int .i64 v6890))) ?_
            refine l_ds 43 (.one (.d (.sl (List.map TTrace.enc l_45)))) ?_
            refine l_ds 44 (.one (.d (.int .i64 v5930))) ?_
            refine l_spec (some 45) (.iad 3 (.t 43) (.t 44)) (.one (.d (.ptr [.int .i64 x6925.id, .int .i64 x6925.weight, .sl (List.map TSpan.enc x6925.spans)])), []) (by kernel_rfl) (detA_none (d_iad_sl (enc := TTrace.enc) (k := .i64) l_45 x6925 (by kernel_rfl) (by kernel_rfl) h3431 h3432 rfl)) ?_
            refine l_ds 46 (.one (.d (.ptr [.int .i64 x6925.weight, .sl (List.map TSpan.enc x6925.spans)]))) ?_
            refine l_ds 47 (.one (.d (.int .i64 x6925.weight))) ?_
            refine l_ds 48 (.one (.d (.int .i64 (w64 (v6890 + x6925.weight))))) ?_
            refine l_ds 49 (.one (.ref 200003 0 0 2)) ?_
            refine l_ds 50 (.one (.d (.int .i64 v6892))) ?_
            refine l_ds 51 (.one (.d (.sl (List.map TTrace.enc l_45)))) ?_
            refine l_ds 52 (.one (.d (.int .i64 v5930))) ?_
            refine l_spec (some 53) (.iad 3 (.t 51) (.t 52)) (.one (.d (.ptr [.int .i64 x6925.id, .int .i64 x6925.weight, .sl (List.map TSpan.enc x6925.spans)])), []) (by kernel_rfl) (detA_some (d_iad_sl (enc := TTrace.enc) (k := .i64) l_45 x6925 (by kernel_rfl) (by kernel_rfl) h3431 h3432 rfl) (by kernel_rfl)) ?_
            refine l_ds 54 (.one (.d (.ptr [.int .i64 x6925.weight, .sl (List.map TSpan.enc x6925.spans)]))) ?_
            refine l_ds 55 (.one (.d (.int .i64 x6925.weight))) ?_
            refine l_ds 56 (.one (.ref 11 1 0 10)) ?_
            refine l_ds 57 (.one (.d (.int .i64 x6943.end_))) ?_
            refine l_ds 58 (.one (.ref 11 1 0 9)) ?_
            refine l_ds 59 (.one (.d (.int .i64 x6943.start))) ?_
            refine l_ds 60 (.one (.d (.int .i64 (w64 (x6943.end_ - x6943.start))))) ?_
            refine l_ds 61 (.one (.d (.int .i64 (w64 (x6925.weight * (w64 (x6943.end_ - x6943.start))))))) ?_
            refine l_ds 62 (.one (.d (.int .i64 (w64 (v6892 + (w64 (x6925.weight * (w64 (x6943.end_ - x6943.start))))))))) ?_
            refine l_ds 63 (.one (.ref 200003 0 0 0)) ?_
            refine l_det none (.tup [], [(200003, 0, .row true 37 4 [[.d (.int .i64 (w64 (v6890 + x6925.weight))), .d (.int .i64 v6891), .d (.int .i64 v6892), .d (.int .i64 v5929)]])]) (by kernel_rfl) ?_
            refine l_ds 64 (.one (.ref 200003 0 0 2)) ?_
            refine l_det none (.tup [], [(200003, 0, .row true 37 4 [[.d (.int .i64 (w64 (v6890 + x6925.weight))), .d (.int .i64 v6891), .d (.int .i64 (w64 (v6892 + (w64 (x6925.weight * (w64 (x6943.end_ - x6943.start))))))), .d (.int .i64 v5929)]])]) (by kernel_rfl) ?_
            refine l_nil ?_
            refine AW.sregL [(0, none), (1, none)] (by kernel_rfl) ?_
            refine l_ds 65 (.one (.ref 11 1 0 11)) ?_
            refine l_ds 66 (.one (.d (.bool x6943.error))) ?_
            refine l_nil ?_
            refine AW.cond' (by kernel_rfl) h (fun h => ?_) (fun h => ?_)
            · refine AW.regdL follows_mixed [[], [0], [], [], [2, 3], [2, 3, 4], [2, 3, 4, 5], [0, 1, 2, 3, 4, 5, 6], [0, 1, 2, 3, 4, 5, 6, 7], [0, 1, 2, 3, 4, 5, 6, 7, 8]] [(0, none), (1, none), (2, none), (3, none), (4, none), (5, none), (6, none), (7, none), (8, none), (9, none)] (by kernel_rfl) ?_
              refine l_ds 67 (.one (.ref 200003 0 0 1)) ?_
              refine l_ds 68 (.one (.d (.int .i64 v6891))) ?_
              refine l_ds 69 (.one (.d (.sl (List.map TTrace.enc l_45)))) ?_
              refine l_ds 70 (.one (.d (.int .i64 v5930))) ?_
              refine l_spec (some 71) (.iad 3 (.t 69) (.t 70)) (.one (.d (.ptr [.int .i64 x6925.id, .int .i64 x6925.weight, .sl (List.map TSpan.enc x6925.spans)])), []) (by kernel_rfl) (detA_none (d_iad_sl (enc := TTrace.enc) (k := .i64) l_45 x6925 (by kernel_rfl) (by kernel_rfl) h3431 h3432 rfl)) ?_
              refine l_ds 72 (.one (.d (.ptr [.int .i64 x6925.weight, .sl (List.map TSpan.enc x6925.spans)]))) ?_
              refine l_ds 73 (.one (.d (.int .i64 x6925.weight))) ?_
              refine l_ds 74 (.one (.d (.int .i64 (w64 (v6891 + x6925.weight))))) ?_
              refine l_ds 75 (.one (.ref 200003 0 0 1)) ?_
              refine l_det none (.tup [], [(200003, 0, .row true 37 4 [[.d (.int .i64 (w64 (v6890 + x6925.weight))), .d (.int .i64 (w64 (v6891 + x6925.weight))), .d (.int .i64 (w64 (v6892 + (w64 (x6925.weight * (w64 (x6943.end_ - x6943.start))))))), .d (.int .i64 v5929)]])]) (by kernel_rfl) ?_
              refine l_nil ?_
              refine q_bfall ?_
              refine q_fall ?_
              exact Lab.m ((w64 (v6890 + x6925.weight)), (w64 (v6891 + x6925.weight)), (w64 (v6892 + (w64 (x6925.weight * (w64 (x6943.end_ - x6943.start)))))), true) [(200001, some 200001), (200002, some 200002), (200003, some 200003)] h
            · refine AW.skip ?_
              refine q_bfall ?_
              refine q_fall ?_
              exact Lab.m ((w64 (v6890 + x6925.weight)), v6891, (w64 (v6892 + (w64 (x6925.weight * (w64 (x6943.end_ - x6943.start)))))), true) [(200001, some 200001), (200002, some 200002), (200003, some 200003)] h
        · rintro ⟨v6938, v6939, v6940, v6941⟩ h
          have h : J45_4 N6921 v6894 v6938 v6939 v6940 v6941 := h
          unfold J45_4 at h
          refine AW.regL [(0, none), (1, none), (2, none)] (by kernel_rfl) ?_
          refine l_ds 26 (.one (.d (.int .i64 v6894))) ?_
          refine l_ds 27 (.one (.d (.int .i64 (w64 (v6894 + 1))))) ?_
          refine l_ds 10 (.one (.d (.int .i64 (w64 (v6894 + 1))))) ?_
          refine l_nil ?_
          refine q_fall ?_
          exact Lab.m (v6938, v6939, v6940, v6941, (w64 (v6894 + 1))) [(200001, some 200001), (200002, some 200002), (200003, some 200003)] h
      · refine AW.exit ?_
        refine q_exit ?_
        refine q_exit ?_
        refine q_bhere ?_
        refine q_fall ?_
        refine AW.sregL [(0, none)] (by kernel_rfl) ?_
        refine l_ds 76 (.one (.d (.bool v6893))) ?_
        refine l_nil ?_
        refine AW.cond' (by kernel_rfl) h (fun h => ?_) (fun h => ?_)
        · refine AW.regdL follows_mixed [[], [0], [], [], [2, 3], [2, 3, 4], [2, 3, 4, 5], [0, 1, 2, 3, 4, 5, 6], [0, 1, 2, 3, 4, 5, 6, 7], [0, 1, 2, 3, 4, 5, 6, 7, 8]] [(0, none), (1, none), (2, none), (3, none), (4, none), (5, none), (6, none), (7, none), (8, none), (9, none)] (by kernel_rfl) ?_
          refine l_ds 77 (.one (.ref 200003 0 0 3)) ?_
          refine l_ds 78 (.one (.d (.int .i64 v5929))) ?_
          refine l_ds 79 (.one (.d (.sl (List.map TTrace.enc l_45)))) ?_
          refine l_ds 80 (.one (.d (.int .i64 v5930))) ?_
          refine l_spec (some 81) (.iad 3 (.t 79) (.t 80)) (.one (.d (.ptr [.int .i64 x6925.id, .int .i64 x6925.weight, .sl (List.map TSpan.enc x6925.spans)])), []) (by kernel_rfl) (detA_none (d_iad_sl (enc := TTrace.enc) (k := .i64) l_45 x6925 (by kernel_rfl) (by kernel_rfl) h3431 h3432 rfl)) ?_
          refine l_ds 82 (.one (.d (.ptr [.int .i64 x6925.weight, .sl (List.map TSpan.enc x6925.spans)]))) ?_
          refine l_ds 83 (.one (.d (.int .i64 x6925.weight))) ?_
          refine l_ds 84 (.one (.d (.int .i64 (w64 (v5929 + x6925.weight))))) ?_
          refine l_ds 85 (.one (.ref 200003 0 0 3)) ?_
          refine l_det none (.tup [], [(200003, 0, .row true 37 4 [[.d (.int .i64 v6890), .d (.int .i64 v6891), .d (.int .i64 v6892), .d (.int .i64 (w64 (v5929 + x6925.weight)))]])]) (by kernel_rfl) ?_
          refine l_nil ?_
          refine q_bfall ?_
          refine q_fall ?_
          exact Lab.m ((w64 (v5929 + x6925.weight)), v6890, v6891, v6892) [(200001, some 200001), (200002, some 200002), (200003, some 200003)] h
        · refine AW.skip ?_
          refine q_bfall ?_
          refine q_fall ?_
          exact Lab.m (v5929, v6890, v6891, v6892) [(200001, some 200001), (200002, some 200002), (200003, some 200003)] h
    · rintro ⟨v6776, v6777, v6778, v6779⟩ h
      have h : J45_2 N6439 v5930 v6776 v6777 v6778 v6779 := h
      unfold J45_2 at h
      refine AW.regL [(0, none), (1, none), (2, none)] (by kernel_rfl) ?_
      refine l_ds 16 (.one (.d (.int .i64 v5930))) ?_
      refine l_ds 17 (.one (.d (.int .i64 (w64 (v5930 + 1))))) ?_
      refine l_ds 8 (.one (.d (.int .i64 (w64 (v5930 + 1))))) ?_
      refine l_nil ?_
      refine q_fall ?_
      exact Lab.m (v6777, v6778, v6779, v6776, (w64 (v5930 + 1))) [(200001, some 200001), (200002, some 200002), (200003, some 200003)] h
  · refine AW.exit ?_
    refine q_exit ?_
    refine q_exit ?_
    refine q_bhere ?_
    refine q_fall ?_
    refine AW.sregL [(0, none), (1, none)] (by kernel_rfl) ?_
    refine l_ds 86 (.agg [.d (.int .i64 v5926), .d (.int .i64 v5927), .d (.int .i64 v5928), .d (.int .i64 v5929)]) ?_
    refine l_det none (.tup [], [(200002, 0, .row true 37 4 [[.d (.int .i64 v5926), .d (.int .i64 v5927), .d (.int .i64 v5928), .d (.int .i64 v5929)]])]) (by kernel_rfl) ?_
    refine l_nil ?_
    refine AW.ret ?_
    exact q_end [.agg [.d (.int .i64 v5926), .d (.int .i64 v5927), .d (.int .i64 v5928), .d (.int .i64 v5929)]] [false] [.agg (List.map RC.d [.int .i64 v5926, .int .i64 v5927, .int .i64 v5928, .int .i64 v5929])] [] [] (by kernel_rfl) ⟨by kernel_rfl, by kernel_rfl⟩ (by kernel_rfl) (by kernel_rfl) (by kernel_rfl) (by kernel_rfl) (Eq.mp (by kernel_rfl) (hK (TTotal.mk v5926 v5927 v5928 v5929) h)) (.inr rfl)
def r44_0 : List AR := [⟨some 2, .box 39 true 3 (.t 0), [], none⟩,
  ⟨some 3, .box 39 true 3 (.t 1), [], none⟩,
  ⟨some 4, .mov (.c (.bool false)), [], none⟩]
def r44_1 : List AR := [⟨some 5, .fad (.t 2) 0, [], none⟩,
  ⟨some 6, .ld false 1 (.t 5), [0], none⟩,
  ⟨some 7, .fad (.t 3) 0, [], none⟩,
  ⟨some 8, .ld false 1 (.t 7), [2], none⟩,
  ⟨some 9, .bin .neq (.t 6) (.t 8), [1, 3], none⟩]
def r44_2 : List AR := [⟨some 10, .fad (.t 2) 0, [], none⟩,
  ⟨some 11, .ld false 1 (.t 10), [0], none⟩,
  ⟨some 12, .fad (.t 3) 0, [], none⟩,
  ⟨some 13, .ld false 1 (.t 12), [2], none⟩,
  ⟨some 14, .bin .lss (.t 11) (.t 13), [1, 3], none⟩,
  ⟨some 4, .mov (.t 14), [4, 0, 1, 2, 3, 4], none⟩]
def r44_3 : List AR := [⟨some 15, .fad (.t 2) 1, [], none⟩,
  ⟨some 16, .ld false 1 (.t 15), [0], none⟩,
  ⟨some 17, .fad (.t 3) 1, [], none⟩,
  ⟨some 18, .ld false 1 (.t 17), [2], none⟩,
  ⟨some 19, .bin .neq (.t 16) (.t 18), [1, 3], none⟩]
def r44_4 : List AR := [⟨some 20, .fad (.t 2) 1, [], none⟩,
  ⟨some 21, .ld false 1 (.t 20), [0], none⟩,
  ⟨some 22, .fad (.t 3) 1, [], none⟩,
  ⟨some 23, .ld false 1 (.t 22), [2], none⟩,
  ⟨some 24, .bin .lss (.t 21) (.t 23), [1, 3], none⟩,
  ⟨some 4, .mov (.t 24), [4, 0, 1, 2, 3, 4], none⟩]
def r44_5 : List AR := [⟨some 25, .fad (.t 2) 2, [], none⟩,
  ⟨some 26, .ld false 1 (.t 25), [0], none⟩,
  ⟨some 27, .fad (.t 3) 2, [], none⟩,
  ⟨some 28, .ld false 1 (.t 27), [2], none⟩,
  ⟨some 29, .bin .lss (.t 26) (.t 28), [1, 3], none⟩,
  ⟨some 4, .mov (.t 29), [4, 0, 1, 2, 3, 4], none⟩]
def c44 : ACode := .seq (.reg r44_0 false) (.seq (.seq (.reg r44_1 false) (.cond (.t 9) (.seq (.reg r44_2 false) (.ret)) (.skip))) (.seq (.seq (.reg r44_3 false) (.cond (.t 19) (.seq (.reg r44_4 false) (.ret)) (.skip))) (.seq (.reg r44_5 false) (.ret))))
theorem body44 : Try.f44.body.map (comp Try.prog 30) = some c44 := by kernel_rfl
theorem res44 : allSome (Try.f44.results.toList.map (compRes Try.prog)) = some [.s 4] := by kernel_rfl
theorem cok44 {S : FSpec} (h : ∀ args K, S args K → args.all argOk = true ∧ args.length ≤ 30 ∧ AW Try.prog 30 (some ownP) c44 (initS args) (retPost [.s 4] args K)) : COK Try.prog 44 S := of_body Try.func44 Try.ntmps44 body44 res44 h

/-- sleuth/sleuthlaw25.less -/
def W44 (a_44 : TGroup) (b_44 : TGroup) (K : Bool → Prop) : Prop :=
  Cond (decide (¬ a_44.service = b_44.service)) (K (Op.bytesLess a_44.service.toList b_44.service.toList)) (Cond (decide (¬ a_44.version = b_44.version)) (K (Op.bytesLess a_44.version.toList b_44.version.toList)) (K (Op.bytesLess a_44.operation.toList b_44.operation.toList)))

def S44 : FSpec := fun args K => ∃ (a_44 : TGroup), ∃ (b_44 : TGroup), ∃ (Kr : Bool → Prop), args = [.agg (List.map RC.d (TGroup.enc a_44)), .agg (List.map RC.d (TGroup.enc b_44))] ∧ W44 a_44 b_44 Kr ∧ ∀ r, Kr r → K (.one (.d (.bool r))) []

theorem en44 : enters Try.prog 44 = true := by unfold enters; rw [Try.func44]; rfl
theorem cl44 (a_44 : TGroup) (b_44 : TGroup) {Kr : Bool → Prop} (h : W44 a_44 b_44 Kr) : S44 [.agg (List.map RC.d (TGroup.enc a_44)), .agg (List.map RC.d (TGroup.enc b_44))] (fun rv rows => ∃ r, rv = (.one (.d (.bool r))) ∧ rows = [] ∧ Kr r) := ⟨a_44, b_44, Kr, rfl, h, fun r hr => ⟨r, rfl, rfl, hr⟩⟩

theorem ok44 : COK Try.prog 44 S44 := by
  refine cok44 fun args K0 hS => ?_
  obtain ⟨a_44, b_44, K, rfl, h, hK⟩ := hS
  refine ⟨by kernel_rfl, by simp, ?_⟩
  unfold W44 at h
  refine AW.sregL [(0, none), (1, none), (2, none)] (by kernel_rfl) ?_
  refine l_det (some 2) (.one (.ref 2 1 0 0), [(2, 1, .row true 39 3 [[.d (.str a_44.service), .d (.str a_44.version), .d (.str a_44.operation)]])]) (by kernel_rfl) ?_
  refine l_det (some 3) (.one (.ref 3 1 0 0), [(3, 1, .row true 39 3 [[.d (.str b_44.service), .d (.str b_44.version), .d (.str b_44.operation)]])]) (by kernel_rfl) ?_
  refine l_ds 4 (.one (.d (.bool false))) ?_
  refine l_nil ?_
  refine AW.seq ?_
  refine AW.sregL [(0, none), (1, none), (2, none), (3, none), (4, none)] (by kernel_rfl) ?_
  refine l_ds 5 (.one (.ref 2 1 0 0)) ?_
  refine l_ds 6 (.one (.d (.str a_44.service))) ?_
  refine l_ds 7 (.one (.ref 3 1 0 0)) ?_
  refine l_ds 8 (.one (.d (.str b_44.service))) ?_
  refine l_ds 9 (.one (.d (.bool (decide (¬ a_44.service = b_44.service))))) ?_
  refine l_nil ?_
  refine AW.cond' (by kernel_rfl) h (fun h => ?_) (fun h => ?_)
  · refine AW.sregL [(0, none), (1, none), (2, none), (3, none), (4, none), (5, none)] (by kernel_rfl) ?_
    refine l_ds 10 (.one (.ref 2 1 0 0)) ?_
    refine l_ds 11 (.one (.d (.str a_44.service))) ?_
    refine l_ds 12 (.one (.ref 3 1 0 0)) ?_
    refine l_ds 13 (.one (.d (.str b_44.service))) ?_
    refine l_ds 14 (.one (.d (.bool (Op.bytesLess a_44.service.toList b_44.service.toList)))) ?_
    refine l_ds 4 (.one (.d (.bool (Op.bytesLess a_44.service.toList b_44.service.toList)))) ?_
    refine l_nil ?_
    refine AW.ret ?_
    refine q_ret ?_
    exact q_end [.one (.d (.bool (Op.bytesLess a_44.service.toList b_44.service.toList)))] [false] [.one (.d (.bool (Op.bytesLess a_44.service.toList b_44.service.toList)))] [] [] (by kernel_rfl) ⟨by kernel_rfl, by kernel_rfl⟩ (by kernel_rfl) (by kernel_rfl) (by kernel_rfl) (by kernel_rfl) (Eq.mp (by kernel_rfl) (hK (Op.bytesLess a_44.service.toList b_44.service.toList) h)) (.inr rfl)
  · refine AW.skip ?_
    refine q_fall ?_
    refine AW.seq ?_
    refine AW.sregL [(0, none), (1, none), (2, none), (3, none), (4, none)] (by kernel_rfl) ?_
    refine l_ds 15 (.one (.ref 2 1 0 1)) ?_
    refine l_ds 16 (.one (.d (.str a_44.version))) ?_
    refine l_ds 17 (.one (.ref 3 1 0 1)) ?_
    refine l_ds 18 (.one (.d (.str b_44.version))) ?_
    refine l_ds 19 (.one (.d (.bool (decide (¬ a_44.version = b_44.version))))) ?_
    refine l_nil ?_
    refine AW.cond' (by kernel_rfl) h (fun h => ?_) (fun h => ?_)
    · refine AW.sregL [(0, none), (1, none), (2, none), (3, none), (4, none), (5, none)] (by kernel_rfl) ?_
      refine l_ds 20 (.one (.ref 2 1 0 1)) ?_
      refine l_ds 21 (.one (.d (.str a_44.version))) ?_
      refine l_ds 22 (.one (.ref 3 1 0 1)) ?_
      refine l_ds 23 (.one (.d (.str b_44.version))) ?_
      refine l_ds 24 (.one (.d (.bool (Op.bytesLess a_44.version.toList b_44.version.toList)))) ?_
      refine l_ds 4 (.one (.d (.bool (Op.bytesLess a_44.version.toList b_44.version.toList)))) ?_
      refine l_nil ?_
      refine AW.ret ?_
      refine q_ret ?_
      exact q_end [.one (.d (.bool (Op.bytesLess a_44.version.toList b_44.version.toList)))] [false] [.one (.d (.bool (Op.bytesLess a_44.version.toList b_44.version.toList)))] [] [] (by kernel_rfl) ⟨by kernel_rfl, by kernel_rfl⟩ (by kernel_rfl) (by kernel_rfl) (by kernel_rfl) (by kernel_rfl) (Eq.mp (by kernel_rfl) (hK (Op.bytesLess a_44.version.toList b_44.version.toList) h)) (.inr rfl)
    · refine AW.skip ?_
      refine q_fall ?_
      refine AW.sregL [(0, none), (1, none), (2, none), (3, none), (4, none), (5, none)] (by kernel_rfl) ?_
      refine l_ds 25 (.one (.ref 2 1 0 2)) ?_
      refine l_ds 26 (.one (.d (.str a_44.operation))) ?_
      refine l_ds 27 (.one (.ref 3 1 0 2)) ?_
      refine l_ds 28 (.one (.d (.str b_44.operation))) ?_
      refine l_ds 29 (.one (.d (.bool (Op.bytesLess a_44.operation.toList b_44.operation.toList)))) ?_
      refine l_ds 4 (.one (.d (.bool (Op.bytesLess a_44.operation.toList b_44.operation.toList)))) ?_
      refine l_nil ?_
      refine AW.ret ?_
      exact q_end [.one (.d (.bool (Op.bytesLess a_44.operation.toList b_44.operation.toList)))] [false] [.one (.d (.bool (Op.bytesLess a_44.operation.toList b_44.operation.toList)))] [] [] (by kernel_rfl) ⟨by kernel_rfl, by kernel_rfl⟩ (by kernel_rfl) (by kernel_rfl) (by kernel_rfl) (by kernel_rfl) (Eq.mp (by kernel_rfl) (hK (Op.bytesLess a_44.operation.toList b_44.operation.toList) h)) (.inr rfl)
end Go.Proofs.Ytnpdeecoejabgaa
