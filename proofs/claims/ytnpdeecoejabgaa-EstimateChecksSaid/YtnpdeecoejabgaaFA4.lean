/- Go functions: their shallow forms, and that they keep their contracts. Printed by a program of mine (gs.py). -/
import Derived.Test.YtnpdeecoejabgaaFA3
set_option maxRecDepth 100000
set_option linter.unusedVariables false
set_option linter.unusedSimpArgs false
namespace Go.Proofs.Ytnpdeecoejabgaa
open Go Go.RowKit

def r68_0 : List AR := [⟨some 1, .box 104 true 3 (.t 0), [], none⟩,
  ⟨some 2, .mov (.c .nils), [], none⟩,
  ⟨some 3, .mov (.c .nils), [1], none⟩]
def r68_1 : List AR := [⟨some 4, .mov (.c (.int .i64 0)), [], none⟩]
def r68_2 : List AR := [⟨some 10, .mov (.t 4), [], none⟩,
  ⟨some 11, .fad (.t 1) 2, [], none⟩,
  ⟨some 12, .ld false 1 (.t 11), [1], none⟩,
  ⟨some 13, .lens (.t 12), [2], none⟩,
  ⟨some 14, .bin .lss (.t 10) (.t 13), [0, 3], none⟩]
def r68_3 : List AR := [⟨some 17, .fad (.t 1) 2, [], none⟩,
  ⟨some 18, .ld false 1 (.t 17), [0], none⟩,
  ⟨some 19, .mov (.t 4), [], none⟩,
  ⟨some 20, .iad 11 (.t 18) (.t 19), [1, 2], none⟩,
  ⟨some 21, .ld true 11 (.t 20), [3], none⟩,
  ⟨some 5, .alloc 153 true [.int .u8 0, .int .u8 0, .int .u8 0, .int .u8 0, .int .u8 0, .int .u8 0, .int .u8 0, .int .u8 0, .int .u8 0, .int .u8 0, .bool false], [], none⟩,
  ⟨none, .st 11 (.t 5) (.t 21), [5, 4, 0, 1, 2, 3, 4, 5], none⟩]
def r68_4 : List AR := [⟨some 22, .fad (.t 1) 1, [], none⟩,
  ⟨some 23, .ld false 1 (.t 22), [0], none⟩,
  ⟨some 24, .bin .rem (.t 23) (.c (.int .u8 32)), [1], none⟩,
  ⟨some 25, .cvi .i64 (.t 24), [2], none⟩,
  ⟨some 26, .bin .add (.c (.int .i64 1000)) (.t 25), [3], none⟩,
  ⟨some 6, .mov (.t 26), [4, 0, 1, 2, 3, 4], none⟩]
def r68_5 : List AR := [⟨some 27, .fad (.t 5) 0, [], none⟩,
  ⟨some 28, .ld false 1 (.t 27), [0], none⟩,
  ⟨some 29, .cvi .i64 (.t 28), [1], none⟩,
  ⟨some 30, .mov (.t 4), [], none⟩,
  ⟨some 31, .bin .add (.t 30) (.c (.int .i64 1)), [3], none⟩,
  ⟨some 32, .bin .rem (.t 29) (.t 31), [2, 4], none⟩,
  ⟨some 7, .mov (.t 32), [5, 0, 1, 2, 3, 4, 5], none⟩]
def r68_6 : List AR := [⟨some 33, .mov (.t 7), [], none⟩,
  ⟨some 34, .mov (.t 4), [], none⟩,
  ⟨some 35, .bin .lss (.t 33) (.t 34), [0, 1], none⟩]
def r68_7 : List AR := [⟨some 36, .mov (.t 2), [], none⟩,
  ⟨some 37, .mov (.t 7), [], none⟩,
  ⟨some 38, .iad 1 (.t 36) (.t 37), [0, 1], none⟩,
  ⟨some 39, .ld false 1 (.t 38), [2], none⟩,
  ⟨some 6, .mov (.t 39), [3, 0, 1, 2, 3], none⟩]
def r68_8 : List AR := [⟨some 40, .mov (.t 4), [], none⟩,
  ⟨some 41, .bin .gtr (.t 40) (.c (.int .i64 0)), [0], none⟩]
def r68_9 : List AR := [⟨some 42, .mov (.t 6), [], none⟩,
  ⟨some 43, .fad (.t 5) 6, [], none⟩,
  ⟨some 44, .ld false 1 (.t 43), [1], none⟩,
  ⟨some 45, .bin .rem (.t 44) (.c (.int .u8 32)), [2], none⟩,
  ⟨some 46, .cvi .i64 (.t 45), [3], none⟩,
  ⟨some 47, .bin .add (.t 42) (.t 46), [0, 4], none⟩,
  ⟨some 6, .mov (.t 47), [5, 0, 1, 2, 3, 4, 5], none⟩]
def r68_10 : List AR := [⟨some 48, .mov (.t 2), [], none⟩,
  ⟨some 49, .mov (.t 6), [], none⟩,
  ⟨some 50, .bsl 3 1 1 [.int .i64 0] [(0, .t 49)], [1], none⟩,
  ⟨some 51, .app 3 1 8 [.int .i64 0] (.t 48) (.t 50), [0, 2], none⟩,
  ⟨some 52, .mov (.t 3), [], none⟩,
  ⟨some 53, .mov (.t 6), [], none⟩,
  ⟨some 54, .fad (.t 5) 7, [], none⟩,
  ⟨some 55, .ld false 1 (.t 54), [6], none⟩,
  ⟨some 56, .bin .rem (.t 55) (.c (.int .u8 32)), [7], none⟩,
  ⟨some 57, .cvi .i64 (.t 56), [8], none⟩,
  ⟨some 58, .bin .add (.t 53) (.t 57), [5, 9], none⟩,
  ⟨some 59, .bsl 3 1 1 [.int .i64 0] [(0, .t 58)], [10], none⟩,
  ⟨some 60, .app 3 1 8 [.int .i64 0] (.t 52) (.t 59), [4, 11, 3], none⟩,
  ⟨some 2, .mov (.t 51), [3, 12, 0, 1, 2, 3], none⟩,
  ⟨some 3, .mov (.t 60), [12, 13, 0, 1, 2, 3, 4, 5, 6, 7, 8, 9, 10, 11, 12, 13], none⟩]
def r68_11 : List AR := [⟨some 15, .mov (.t 4), [], none⟩,
  ⟨some 16, .bin .add (.t 15) (.c (.int .i64 1)), [0], none⟩,
  ⟨some 4, .mov (.t 16), [1, 0, 1], none⟩]
def r68_12 : List AR := [⟨some 61, .fad (.t 1) 2, [], none⟩,
  ⟨some 62, .ld false 1 (.t 61), [0], none⟩,
  ⟨some 63, .lens (.t 62), [1], none⟩,
  ⟨some 64, .bin .sub (.t 63) (.c (.int .i64 1)), [2], none⟩,
  ⟨some 8, .mov (.t 64), [3, 0, 1, 2, 3], none⟩]
def r68_13 : List AR := [⟨some 65, .mov (.t 8), [], none⟩,
  ⟨some 66, .bin .gtr (.t 65) (.c (.int .i64 0)), [0], none⟩]
def r68_14 : List AR := [⟨some 69, .fad (.t 1) 2, [], none⟩,
  ⟨some 70, .ld false 1 (.t 69), [0], none⟩,
  ⟨some 71, .mov (.t 8), [], none⟩,
  ⟨some 72, .iad 11 (.t 70) (.t 71), [1, 2], none⟩,
  ⟨some 73, .fad (.t 72) 0, [3], none⟩,
  ⟨some 74, .ld false 1 (.t 73), [4], none⟩,
  ⟨some 75, .cvi .i64 (.t 74), [5], none⟩,
  ⟨some 76, .mov (.t 8), [], none⟩,
  ⟨some 77, .bin .add (.t 76) (.c (.int .i64 1)), [7], none⟩,
  ⟨some 78, .bin .rem (.t 75) (.t 77), [6, 8], none⟩,
  ⟨some 9, .mov (.t 78), [9, 0, 1, 2, 3, 4, 5, 6, 7, 8, 9], none⟩]
def r68_15 : List AR := [⟨some 79, .mov (.t 9), [], none⟩,
  ⟨some 80, .mov (.t 8), [], none⟩,
  ⟨some 81, .bin .lss (.t 79) (.t 80), [0, 1], none⟩,
  ⟨some 82, .mov (.t 81), [2], none⟩,
  ⟨some 83, .fad (.t 1) 2, [3], some (82, true)⟩,
  ⟨some 84, .ld false 1 (.t 83), [4, 3], some (82, true)⟩,
  ⟨some 85, .mov (.t 8), [3], some (82, true)⟩,
  ⟨some 86, .iad 11 (.t 84) (.t 85), [5, 6, 3], some (82, true)⟩,
  ⟨some 87, .ld true 11 (.t 86), [7, 3], some (82, true)⟩,
  ⟨some 88, .call 83 [.t 87], [8, 3, 3], some (82, true)⟩,
  ⟨some 89, .bin .eql (.t 88) (.c (.int .i64 3)), [9, 3], some (82, true)⟩,
  ⟨some 90, .pick (.t 82) (.t 89) (.c (.bool false)), [3, 10], none⟩,
  ⟨some 91, .mov (.t 90), [11, 9], none⟩,
  ⟨some 92, .fad (.t 1) 2, [12], some (91, true)⟩,
  ⟨some 93, .ld false 1 (.t 92), [13, 12], some (91, true)⟩,
  ⟨some 94, .mov (.t 9), [12], some (91, true)⟩,
  ⟨some 95, .iad 11 (.t 93) (.t 94), [14, 15, 12], some (91, true)⟩,
  ⟨some 96, .ld true 11 (.t 95), [16, 12], some (91, true)⟩,
  ⟨some 97, .call 83 [.t 96], [17, 12, 12], some (91, true)⟩,
  ⟨some 98, .bin .eql (.t 97) (.c (.int .i64 2)), [18, 12], some (91, true)⟩,
  ⟨some 99, .pick (.t 91) (.t 98) (.c (.bool false)), [12, 19], none⟩,
  ⟨some 100, .mov (.t 99), [20, 18], none⟩,
  ⟨some 101, .fad (.t 1) 2, [21], some (100, true)⟩,
  ⟨some 102, .ld false 1 (.t 101), [22, 21], some (100, true)⟩,
  ⟨some 103, .mov (.t 9), [21], some (100, true)⟩,
  ⟨some 104, .iad 11 (.t 102) (.t 103), [23, 24, 21], some (100, true)⟩,
  ⟨some 105, .fad (.t 104) 10, [25, 21], some (100, true)⟩,
  ⟨some 106, .ld false 1 (.t 105), [26, 21], some (100, true)⟩,
  ⟨some 107, .un .not (.t 106), [27, 21], some (100, true)⟩,
  ⟨some 108, .pick (.t 100) (.t 107) (.c (.bool false)), [21, 28], none⟩]
def r68_16 : List AR := [⟨some 109, .mov (.t 3), [], none⟩,
  ⟨some 110, .mov (.t 9), [], none⟩,
  ⟨some 111, .mov (.t 3), [], none⟩,
  ⟨some 112, .mov (.t 9), [], none⟩,
  ⟨some 113, .iad 1 (.t 111) (.t 112), [2, 3], none⟩,
  ⟨some 114, .ld false 1 (.t 113), [4], none⟩,
  ⟨some 115, .mov (.t 3), [], none⟩,
  ⟨some 116, .mov (.t 8), [], none⟩,
  ⟨some 117, .iad 1 (.t 115) (.t 116), [6, 7], none⟩,
  ⟨some 118, .ld false 1 (.t 117), [8], none⟩,
  ⟨some 119, .mm true [.t 114, .t 118], [5, 9], none⟩,
  ⟨some 120, .iad 1 (.t 109) (.t 110), [0, 1, 0, 1, 2, 3, 4, 5, 6, 7, 8, 9, 10], none⟩,
  ⟨none, .st 1 (.t 120) (.t 119), [11, 10, 0, 1, 2, 3, 4, 5, 6, 7, 8, 9, 10], none⟩]
def r68_17 : List AR := [⟨some 67, .mov (.t 8), [], none⟩,
  ⟨some 68, .bin .sub (.t 67) (.c (.int .i64 1)), [0], none⟩,
  ⟨some 8, .mov (.t 68), [1, 0, 1], none⟩]
def r68_18 : List AR := [⟨some 121, .mov (.t 2), [], none⟩,
  ⟨some 122, .mov (.t 3), [], none⟩,
  ⟨some 2, .mov (.t 121), [0, 0], none⟩,
  ⟨some 3, .mov (.t 122), [1, 2, 0, 1, 2], none⟩]
def c68 : ACode := .seq (.reg r68_0 false) (.seq (.seq (.reg r68_1 false) (.blk 0 (.loop (.seq (.seq (.reg r68_2 false) (.cond (.t 14) (.skip) (.exit 0))) (.seq (.blk 1 (.seq (.reg r68_3 false) (.seq (.reg r68_4 false) (.seq (.seq (.reg r68_5 false) (.seq (.reg r68_6 false) (.cond (.t 35) (.reg r68_7 false) (.skip)))) (.seq (.seq (.reg r68_8 false) (.cond (.t 41) (.reg r68_9 false) (.skip))) (.reg r68_10 true)))))) (.reg r68_11 false)))))) (.seq (.seq (.reg r68_12 false) (.blk 2 (.loop (.seq (.seq (.reg r68_13 false) (.cond (.t 66) (.skip) (.exit 2))) (.seq (.blk 3 (.seq (.reg r68_14 false) (.seq (.reg r68_15 false) (.cond (.t 108) (.reg r68_16 true) (.skip))))) (.reg r68_17 false)))))) (.seq (.reg r68_18 false) (.ret))))
theorem body68 : Try.f68.body.map (comp Try.prog 123) = some c68 := by kernel_rfl
theorem res68 : allSome (Try.f68.results.toList.map (compRes Try.prog)) = some [.s 2, .s 3] := by kernel_rfl
theorem cok68 {S : FSpec} (h : ∀ args K, S args K → args.all argOk = true ∧ args.length ≤ 123 ∧ AW Try.prog 123 (some ownP) c68 (initS args) (retPost [.s 2, .s 3] args K)) : COK Try.prog 68 S := of_body Try.func68 Try.ntmps68 body68 res68 h

def J68_3 (v6510 : List Int) (v6511 : List Int) (x6536 : TCall) (N6527 : ((List Int) × (List Int) × Int) → Prop) (v6512 : Int) (v6540 : Int) : Prop :=
  Fits ((v6510 ++ [v6540]).length * 8) (Fits ((v6511 ++ [(w64 (v6540 + (w64 (Int.tmod x6536.long 32))))]).length * 8) (N6527 ((v6510 ++ [v6540]), (v6511 ++ [(w64 (v6540 + (w64 (Int.tmod x6536.long 32))))]), (w64 (v6512 + 1)))))

def J68_2 (v6512 : Int) (v6510 : List Int) (v6511 : List Int) (x6536 : TCall) (N6527 : ((List Int) × (List Int) × Int) → Prop) (v6539 : Int) : Prop :=
  Cond (decide (v6512 > 0)) (J68_3 v6510 v6511 x6536 N6527 v6512 (w64 (v6539 + (w64 (Int.tmod x6536.wait 32))))) (J68_3 v6510 v6511 x6536 N6527 v6512 v6539)

def J68_5 (N6762 : ((List Int) × Int) → Prop) (v6718 : Int) (v6791 : List Int) : Prop :=
  N6762 (v6791, (w64 (v6718 - 1)))

def J68_6 (v6717 : List Int) (x6793 : TCall) (v6718 : Int) (N6762 : ((List Int) × Int) → Prop) (v6800 : Bool) : Prop :=
  Cond v6800 (Idx v6717 (Int.tmod (w64 x6793.parent) (w64 (v6718 + 1))) fun x6801 => Idx v6717 v6718 fun x6802 => J68_5 N6762 v6718 (List.set v6717 ((Int.tmod (w64 x6793.parent) (w64 (v6718 + 1))).toNat) (if x6802 > x6801 then x6802 else x6801))) (J68_5 N6762 v6718 v6717)

def L68_4 (t_68 : TTree) (K : ((List Int) × (List Int)) → Prop) (v6510 : List Int) (v6717 : List Int) (v6718 : Int) (N6762 : ((List Int) × Int) → Prop) : Prop :=
  Cond (decide (v6718 > 0)) (Idx t_68.calls v6718 fun x6793 => (w64 (v6718 + 1)) ≠ 0 ∧ (Cond (decide ((Int.tmod (w64 x6793.parent) (w64 (v6718 + 1))) < v6718)) (W83 x6793 fun r6803 => Cond (decide (r6803 = 3)) (Idx t_68.calls (Int.tmod (w64 x6793.parent) (w64 (v6718 + 1))) fun x6804 => W83 x6804 fun r6805 => Cond (decide (r6805 = 2)) (J68_6 v6717 x6793 v6718 N6762 (!x6804.fail)) (J68_6 v6717 x6793 v6718 N6762 false)) (J68_6 v6717 x6793 v6718 N6762 false)) (J68_6 v6717 x6793 v6718 N6762 false))) (K (v6510, v6717))

def L68_1 (t_68 : TTree) (K : ((List Int) × (List Int)) → Prop) (v6510 : List Int) (v6511 : List Int) (v6512 : Int) (N6527 : ((List Int) × (List Int) × Int) → Prop) : Prop :=
  Cond (decide (v6512 < (t_68.calls.length : Int))) (Idx t_68.calls v6512 fun x6536 => (w64 (v6512 + 1)) ≠ 0 ∧ (Cond (decide ((Int.tmod (w64 x6536.parent) (w64 (v6512 + 1))) < v6512)) (Idx v6510 (Int.tmod (w64 x6536.parent) (w64 (v6512 + 1))) fun x6541 => J68_2 v6512 v6510 v6511 x6536 N6527 x6541) (J68_2 v6512 v6510 v6511 x6536 N6527 (w64 (1000 + (w64 (Int.tmod t_68.start 32))))))) (LoopW (fun (s : ((List Int) × Int)) N6762 => L68_4 t_68 K v6510 s.1 s.2 N6762) (v6511, (w64 ((t_68.calls.length : Int) - 1))))

/-- sleuth/sleuthlaw13.times -/
def W68 (t_68 : TTree) (K : ((List Int) × (List Int)) → Prop) : Prop :=
  LoopW (fun (s : ((List Int) × (List Int) × Int)) N6527 => L68_1 t_68 K s.1 s.2.1 s.2.2 N6527) ([], [], 0)

def S68 : FSpec := fun args K => ∃ (t_68 : TTree), ∃ (Kr : ((List Int) × (List Int)) → Prop), args = [.agg (List.map RC.d (TTree.enc t_68))] ∧ W68 t_68 Kr ∧ ∀ r, Kr r → K (.tup [.one (.d (.sl (List.map (eInt .i64) r.1))), .one (.d (.sl (List.map (eInt .i64) r.2)))]) []

theorem en68 : enters Try.prog 68 = true := by unfold enters; rw [Try.func68]; rfl
theorem cl68 (t_68 : TTree) {Kr : ((List Int) × (List Int)) → Prop} (h : W68 t_68 Kr) : S68 [.agg (List.map RC.d (TTree.enc t_68))] (fun rv rows => ∃ r, rv = (.tup [.one (.d (.sl (List.map (eInt .i64) r.1))), .one (.d (.sl (List.map (eInt .i64) r.2)))]) ∧ rows = [] ∧ Kr r) := ⟨t_68, Kr, rfl, h, fun r hr => ⟨r, rfl, rfl, hr⟩⟩

theorem ok68 : COK Try.prog 68 S68 := by
  refine cok68 fun args K0 hS => ?_
  obtain ⟨t_68, K, rfl, h, hK⟩ := hS
  refine ⟨by kernel_rfl, by simp, ?_⟩
  unfold W68 at h
  refine AW.sregL [(0, none), (1, none), (2, none)] (by kernel_rfl) ?_
  refine l_det (some 1) (.one (.ref 1 1 0 0), [(1, 1, .row true 104 3 [[.d (.int .u8 t_68.slot), .d (.int .u8 t_68.start), .d (.sl (List.map TCall.enc t_68.calls))]])]) (by kernel_rfl) ?_
  refine l_ds 2 (.one (.nils)) ?_
  refine l_ds 3 (.one (.nils)) ?_
  refine l_nil ?_
  refine AW.seq ?_
  refine AW.sregL [(0, none)] (by kernel_rfl) ?_
  refine l_ds 4 (.one (.d (.int .i64 0))) ?_
  refine l_nil ?_
  refine AW.blk ?_
  refine AW.loopL (S := ((List Int) × (List Int) × Int)) (fun s => (fun (v6510 : List Int) (v6511 : List Int) (v6512 : Int) => [(1, .one (.ref 200001 0 0 0)), (2, .one (.view 200002 0 0 ((List.map (eInt .i64) v6510).length))), (3, .one (.view 200003 0 0 ((List.map (eInt .i64) v6511).length))), (4, .one (.d (.int .i64 v6512)))]) s.1 s.2.1 s.2.2) (fun s => (fun (v6510 : List Int) (v6511 : List Int) (v6512 : Int) => [(200001, .expl true 104 3 [[.d (.int .u8 t_68.slot), .d (.int .u8 t_68.start), .d (.sl (List.map TCall.enc t_68.calls))]]), (200002, .pure true 3 1 (List.map (eInt .i64) v6510)), (200003, .pure true 3 1 (List.map (eInt .i64) v6511))]) s.1 s.2.1 s.2.2) (fun (s : ((List Int) × (List Int) × Int)) N6527 => L68_1 t_68 K s.1 s.2.1 s.2.2 N6527) (N := fun s => LoopW (fun (s : ((List Int) × (List Int) × Int)) N6527 => L68_1 t_68 K s.1 s.2.1 s.2.2 N6527) s) (Lab.m ([], [], 0) [(200001, some 1), (200002, none), (200003, none)] h) (fun _ h => h) ?_
  rintro ⟨v6510, v6511, v6512⟩ N6527 h
  have h : L68_1 t_68 K v6510 v6511 v6512 N6527 := h
  unfold L68_1 at h
  refine AW.seq ?_
  refine AW.sregL [(0, none), (1, none), (2, none), (3, none), (4, none)] (by kernel_rfl) ?_
  refine l_ds 10 (.one (.d (.int .i64 v6512))) ?_
  refine l_ds 11 (.one (.ref 200001 0 0 2)) ?_
  refine l_ds 12 (.one (.d (.sl (List.map TCall.enc t_68.calls)))) ?_
  refine l_spec (some 13) (.lens (.t 12)) (.one (.d (.int .i64 (t_68.calls.length : Int))), []) (by kernel_rfl) (detA_none (d_lens_sl (enc := TCall.enc) t_68.calls (by kernel_rfl))) ?_
  refine l_ds 14 (.one (.d (.bool (decide (v6512 < (t_68.calls.length : Int)))))) ?_
  refine l_nil ?_
  refine AW.cond' (by kernel_rfl) h (fun h => ?_) (fun h => ?_)
  · refine AW.skip ?_
    refine q_fall ?_
    refine AW.seq ?_
    refine AW.blk ?_
    refine AW.sregL [(0, none), (1, none), (2, none), (3, none), (4, none), (5, none), (6, none)] (by kernel_rfl) ?_
    refine l_ds 17 (.one (.ref 200001 0 0 2)) ?_
    refine l_ds 18 (.one (.d (.sl (List.map TCall.enc t_68.calls)))) ?_
    refine l_ds 19 (.one (.d (.int .i64 v6512))) ?_
    obtain ⟨h153, x6536, h154, h⟩ := h
    refine l_spec (some 20) (.iad 11 (.t 18) (.t 19)) (.one (.d (.ptr [.int .u8 x6536.parent, .int .u8 x6536.clock, .int .u8 x6536.kind, .int .u8 x6536.service, .int .u8 x6536.version, .int .u8 x6536.operation, .int .u8 x6536.wait, .int .u8 x6536.long, .int .u8 x6536.link, .int .u8 x6536.tag, .bool x6536.fail])), []) (by kernel_rfl) (detA_none (d_iad_sl (enc := TCall.enc) (k := .i64) t_68.calls x6536 (by kernel_rfl) (by kernel_rfl) h153 h154 rfl)) ?_
    refine l_ds 21 (.agg [.d (.int .u8 x6536.parent), .d (.int .u8 x6536.clock), .d (.int .u8 x6536.kind), .d (.int .u8 x6536.service), .d (.int .u8 x6536.version), .d (.int .u8 x6536.operation), .d (.int .u8 x6536.wait), .d (.int .u8 x6536.long), .d (.int .u8 x6536.link), .d (.int .u8 x6536.tag), .d (.bool x6536.fail)]) ?_
    refine l_det (some 5) (.one (.ref 5 1 0 0), [(5, 1, .row true 153 11 [[.d (.int .u8 0), .d (.int .u8 0), .d (.int .u8 0), .d (.int .u8 0), .d (.int .u8 0), .d (.int .u8 0), .d (.int .u8 0), .d (.int .u8 0), .d (.int .u8 0), .d (.int .u8 0), .d (.bool false)]])]) (by kernel_rfl) ?_
    refine l_det none (.tup [], [(5, 1, .row true 153 11 [[.d (.int .u8 x6536.parent), .d (.int .u8 x6536.clock), .d (.int .u8 x6536.kind), .d (.int .u8 x6536.service), .d (.int .u8 x6536.version), .d (.int .u8 x6536.operation), .d (.int .u8 x6536.wait), .d (.int .u8 x6536.long), .d (.int .u8 x6536.link), .d (.int .u8 x6536.tag), .d (.bool x6536.fail)]])]) (by kernel_rfl) ?_
    refine l_nil ?_
    refine AW.sregL [(0, none), (1, none), (2, none), (3, none), (4, none), (5, none)] (by kernel_rfl) ?_
    refine l_ds 22 (.one (.ref 200001 0 0 1)) ?_
    refine l_ds 23 (.one (.d (.int .u8 t_68.start))) ?_
    refine l_ds 24 (.one (.d (.int .u8 (Int.tmod t_68.start 32)))) ?_
    refine l_ds 25 (.one (.d (.int .i64 (w64 (Int.tmod t_68.start 32))))) ?_
    refine l_ds 26 (.one (.d (.int .i64 (w64 (1000 + (w64 (Int.tmod t_68.start 32))))))) ?_
    refine l_ds 6 (.one (.d (.int .i64 (w64 (1000 + (w64 (Int.tmod t_68.start 32))))))) ?_
    refine l_nil ?_
    refine AW.seqL (S := Int) (fun s => (fun (v6539 : Int) => [(1, .one (.ref 200001 0 0 0)), (2, .one (.view 200002 0 0 ((List.map (eInt .i64) v6510).length))), (3, .one (.view 200003 0 0 ((List.map (eInt .i64) v6511).length))), (4, .one (.d (.int .i64 v6512))), (5, .one (.ref 200004 0 0 0)), (6, .one (.d (.int .i64 v6539)))]) s) (fun s => (fun (v6539 : Int) => [(200001, .expl true 104 3 [[.d (.int .u8 t_68.slot), .d (.int .u8 t_68.start), .d (.sl (List.map TCall.enc t_68.calls))]]), (200002, .pure true 3 1 (List.map (eInt .i64) v6510)), (200003, .pure true 3 1 (List.map (eInt .i64) v6511)), (200004, .expl true 153 11 [[.d (.int .u8 x6536.parent), .d (.int .u8 x6536.clock), .d (.int .u8 x6536.kind), .d (.int .u8 x6536.service), .d (.int .u8 x6536.version), .d (.int .u8 x6536.operation), .d (.int .u8 x6536.wait), .d (.int .u8 x6536.long), .d (.int .u8 x6536.link), .d (.int .u8 x6536.tag), .d (.bool x6536.fail)]])]) s) (fun s : Int => J68_2 v6512 v6510 v6511 x6536 N6527 s) ?_ ?_
    · refine AW.sregL [(0, none), (1, none), (2, none), (3, none), (4, none), (5, none), (6, none)] (by kernel_rfl) ?_
      refine l_ds 27 (.one (.ref 5 1 0 0)) ?_
      refine l_ds 28 (.one (.d (.int .u8 x6536.parent))) ?_
      refine l_ds 29 (.one (.d (.int .i64 (w64 x6536.parent)))) ?_
      refine l_ds 30 (.one (.d (.int .i64 v6512))) ?_
      refine l_ds 31 (.one (.d (.int .i64 (w64 (v6512 + 1))))) ?_
      obtain ⟨h166, h⟩ := h
      refine l_spec (some 32) (.bin .rem (.t 29) (.t 31)) (.one (.d (.int .i64 (Int.tmod (w64 x6536.parent) (w64 (v6512 + 1))))), []) (by kernel_rfl) (detA_none (d_rem (w64 x6536.parent) (w64 (v6512 + 1)) (by kernel_rfl) (by kernel_rfl) h166)) ?_
      refine l_ds 7 (.one (.d (.int .i64 (Int.tmod (w64 x6536.parent) (w64 (v6512 + 1)))))) ?_
      refine l_nil ?_
      refine AW.sregL [(0, none), (1, none), (2, none)] (by kernel_rfl) ?_
      refine l_ds 33 (.one (.d (.int .i64 (Int.tmod (w64 x6536.parent) (w64 (v6512 + 1)))))) ?_
      refine l_ds 34 (.one (.d (.int .i64 v6512))) ?_
      refine l_ds 35 (.one (.d (.bool (decide ((Int.tmod (w64 x6536.parent) (w64 (v6512 + 1))) < v6512))))) ?_
      refine l_nil ?_
      refine AW.cond' (by kernel_rfl) h (fun h => ?_) (fun h => ?_)
      · refine AW.regL [(0, none), (1, none), (2, none), (3, none), (4, none)] (by kernel_rfl) ?_
        refine l_ds 36 (.one (.view 200002 0 0 ((List.map (eInt .i64) v6510).length))) ?_
        refine l_ds 37 (.one (.d (.int .i64 (Int.tmod (w64 x6536.parent) (w64 (v6512 + 1)))))) ?_
        obtain ⟨h167, x6541, h168, h⟩ := h
        refine l_spec (some 38) (.iad 1 (.t 36) (.t 37)) (.one (.ref 200002 0 ((Int.tmod (w64 x6536.parent) (w64 (v6512 + 1))).toNat) 0), []) (by kernel_rfl) (detA_none (d_iad_v (enc := (eInt .i64)) (k := .i64) (E := 3) (l := true) (ys := dmm (List.map (eInt .i64) v6510)) v6510 x6541 (by kernel_rfl) (by kernel_rfl) (by kernel_rfl) (by kernel_rfl) h167 h168)) ?_
        refine l_spec (some 39) (.ld false 1 (.t 38)) (.one (.d (.int .i64 x6541)), []) (by kernel_rfl) (detA_none (d_ld_row (enc := (eInt .i64)) (o := 200002) (g := 0) (i := ((Int.tmod (w64 x6536.parent) (w64 (v6512 + 1))).toNat)) (off := 0) (E := 3) (sz := 1) (l := true) v6510 x6541 (by kernel_rfl) (by kernel_rfl) (by kernel_rfl) h168 (by kernel_rfl))) ?_
        refine l_ds 6 (.one (.d (.int .i64 x6541))) ?_
        refine l_nil ?_
        refine q_fall ?_
        exact Lab.m x6541 [(200001, some 200001), (200002, some 200002), (200003, some 200003), (200004, some 5)] h
      · refine AW.skip ?_
        refine q_fall ?_
        exact Lab.m (w64 (1000 + (w64 (Int.tmod t_68.start 32)))) [(200001, some 200001), (200002, some 200002), (200003, some 200003), (200004, some 5)] h
    · rintro v6539 h
      have h : J68_2 v6512 v6510 v6511 x6536 N6527 v6539 := h
      unfold J68_2 at h
      refine AW.seqL (S := Int) (fun s => (fun (v6540 : Int) => [(1, .one (.ref 200001 0 0 0)), (2, .one (.view 200002 0 0 ((List.map (eInt .i64) v6510).length))), (3, .one (.view 200003 0 0 ((List.map (eInt .i64) v6511).length))), (4, .one (.d (.int .i64 v6512))), (5, .one (.ref 200004 0 0 0)), (6, .one (.d (.int .i64 v6540)))]) s) (fun s => (fun (v6540 : Int) => [(200001, .expl true 104 3 [[.d (.int .u8 t_68.slot), .d (.int .u8 t_68.start), .d (.sl (List.map TCall.enc t_68.calls))]]), (200002, .pure true 3 1 (List.map (eInt .i64) v6510)), (200003, .pure true 3 1 (List.map (eInt .i64) v6511)), (200004, .expl true 153 11 [[.d (.int .u8 x6536.parent), .d (.int .u8 x6536.clock), .d (.int .u8 x6536.kind), .d (.int .u8 x6536.service), .d (.int .u8 x6536.version), .d (.int .u8 x6536.operation), .d (.int .u8 x6536.wait), .d (.int .u8 x6536.long), .d (.int .u8 x6536.link), .d (.int .u8 x6536.tag), .d (.bool x6536.fail)]])]) s) (fun s : Int => J68_3 v6510 v6511 x6536 N6527 v6512 s) ?_ ?_
      · refine AW.sregL [(0, none), (1, none)] (by kernel_rfl) ?_
        refine l_ds 40 (.one (.d (.int .i64 v6512))) ?_
        refine l_ds 41 (.one (.d (.bool (decide (v6512 > 0))))) ?_
        refine l_nil ?_
        refine AW.cond' (by kernel_rfl) h (fun h => ?_) (fun h => ?_)
        · refine AW.regL [(0, none), (1, none), (2, none), (3, none), (4, none), (5, none), (6, none)] (by kernel_rfl) ?_
          refine l_ds 42 (.one (.d (.int .i64 v6539))) ?_
          refine l_ds 43 (.one (.ref 200004 0 0 6)) ?_
          refine l_ds 44 (.one (.d (.int .u8 x6536.wait))) ?_
          refine l_ds 45 (.one (.d (.int .u8 (Int.tmod x6536.wait 32)))) ?_
          refine l_ds 46 (.one (.d (.int .i64 (w64 (Int.tmod x6536.wait 32))))) ?_
          refine l_ds 47 (.one (.d (.int .i64 (w64 (v6539 + (w64 (Int.tmod x6536.wait 32))))))) ?_
          refine l_ds 6 (.one (.d (.int .i64 (w64 (v6539 + (w64 (Int.tmod x6536.wait 32))))))) ?_
          refine l_nil ?_
          refine q_fall ?_
          exact Lab.m (w64 (v6539 + (w64 (Int.tmod x6536.wait 32)))) [(200001, some 200001), (200002, some 200002), (200003, some 200003), (200004, some 200004)] h
        · refine AW.skip ?_
          refine q_fall ?_
          exact Lab.m v6539 [(200001, some 200001), (200002, some 200002), (200003, some 200003), (200004, some 200004)] h
      · rintro v6540 h
        have h : J68_3 v6510 v6511 x6536 N6527 v6512 v6540 := h
        unfold J68_3 at h
        refine AW.regdL follows_mixed [[], [], [1], [0, 1, 2], [], [], [], [6], [6, 7], [6, 7, 8], [5, 6, 7, 8, 9], [5, 6, 7, 8, 9, 10], [0, 1, 2, 3, 4, 5, 6, 7, 8, 9, 10, 11], [0, 1, 2, 3, 4, 5, 6, 7, 8, 9, 10, 11, 12], [0, 1, 2, 3, 4, 5, 6, 7, 8, 9, 10, 11, 12, 13]] [(0, none), (1, none), (4, none), (5, none), (6, none), (7, some [55, 1000005, 1200004]), (8, none), (9, none), (10, none), (2, some [50]), (3, some [51, 200002, 1000050]), (11, some [59]), (12, none), (13, none), (14, none)] (by kernel_rfl) ?_
        refine l_ds 48 (.one (.view 200002 0 0 ((List.map (eInt .i64) v6510).length))) ?_
        refine l_ds 49 (.one (.d (.int .i64 v6540))) ?_
        refine l_ds 52 (.one (.view 200003 0 0 ((List.map (eInt .i64) v6511).length))) ?_
        refine l_ds 53 (.one (.d (.int .i64 v6540))) ?_
        refine l_ds 54 (.one (.ref 200004 0 0 7)) ?_
        refine l_ds 55 (.one (.d (.int .u8 x6536.long))) ?_
        refine l_ds 56 (.one (.d (.int .u8 (Int.tmod x6536.long 32)))) ?_
        refine l_ds 57 (.one (.d (.int .i64 (w64 (Int.tmod x6536.long 32))))) ?_
        refine l_ds 58 (.one (.d (.int .i64 (w64 (v6540 + (w64 (Int.tmod x6536.long 32))))))) ?_
        refine l_det (some 50) (.one (.view 50 1 0 1), [(50, 1, .row true 3 1 [[.d (.int .i64 v6540)]])]) (by kernel_rfl) ?_
        obtain ⟨h163, h⟩ := h
        refine l_spec (some 51) (.app 3 1 8 [.int .i64 0] (.t 48) (.t 50)) (.one (.view 200002 1 0 ((List.map (eInt .i64) (v6510 ++ [v6540])).length)), [(200002, 1, .row true 3 1 (dmm (List.map (eInt .i64) (v6510 ++ [v6540]))))]) (by kernel_rfl) (detA_some (d_app_v (enc := (eInt .i64)) (xc := .view 50 1 0 1) v6510 [v6540] (by kernel_rfl) (by kernel_rfl) (by kernel_rfl) (by kernel_rfl) (by kernel_rfl) h163 (by kernel_rfl)) (by kernel_rfl)) ?_
        refine l_det (some 59) (.one (.view 59 1 0 1), [(59, 1, .row true 3 1 [[.d (.int .i64 (w64 (v6540 + (w64 (Int.tmod x6536.long 32)))))]])]) (by kernel_rfl) ?_
        obtain ⟨h164, h⟩ := h
        refine l_spec (some 60) (.app 3 1 8 [.int .i64 0] (.t 52) (.t 59)) (.one (.view 200003 1 0 ((List.map (eInt .i64) (v6511 ++ [(w64 (v6540 + (w64 (Int.tmod x6536.long 32))))])).length)), [(200003, 1, .row true 3 1 (dmm (List.map (eInt .i64) (v6511 ++ [(w64 (v6540 + (w64 (Int.tmod x6536.long 32))))]))))]) (by kernel_rfl) (detA_none (d_app_v (enc := (eInt .i64)) (xc := .view 59 1 0 1) v6511 [(w64 (v6540 + (w64 (Int.tmod x6536.long 32))))] (by kernel_rfl) (by kernel_rfl) (by kernel_rfl) (by kernel_rfl) (by kernel_rfl) h164 (by kernel_rfl))) ?_
        refine l_ds 2 (.one (.view 200002 1 0 ((List.map (eInt .i64) (v6510 ++ [v6540])).length))) ?_
        refine l_ds 3 (.one (.view 200003 1 0 ((List.map (eInt .i64) (v6511 ++ [(w64 (v6540 + (w64 (Int.tmod x6536.long 32))))])).length))) ?_
        refine l_nil ?_
        refine q_bfall ?_
        refine q_fall ?_
        refine AW.regL [(0, none), (1, none), (2, none)] (by kernel_rfl) ?_
        refine l_ds 15 (.one (.d (.int .i64 v6512))) ?_
        refine l_ds 16 (.one (.d (.int .i64 (w64 (v6512 + 1))))) ?_
        refine l_ds 4 (.one (.d (.int .i64 (w64 (v6512 + 1))))) ?_
        refine l_nil ?_
        refine q_fall ?_
        exact Lab.m ((v6510 ++ [v6540]), (v6511 ++ [(w64 (v6540 + (w64 (Int.tmod x6536.long 32))))]), (w64 (v6512 + 1))) [(200001, some 200001), (200002, some 200002), (200003, some 200003)] h
  · refine AW.exit ?_
    refine q_exit ?_
    refine q_exit ?_
    refine q_bhere ?_
    refine q_fall ?_
    refine AW.seq ?_
    refine AW.sregL [(0, none), (1, none), (2, none), (3, none), (4, none)] (by kernel_rfl) ?_
    refine l_ds 61 (.one (.ref 200001 0 0 2)) ?_
    refine l_ds 62 (.one (.d (.sl (List.map TCall.enc t_68.calls)))) ?_
    refine l_spec (some 63) (.lens (.t 62)) (.one (.d (.int .i64 (t_68.calls.length : Int))), []) (by kernel_rfl) (detA_none (d_lens_sl (enc := TCall.enc) t_68.calls (by kernel_rfl))) ?_
    refine l_ds 64 (.one (.d (.int .i64 (w64 ((t_68.calls.length : Int) - 1))))) ?_
    refine l_ds 8 (.one (.d (.int .i64 (w64 ((t_68.calls.length : Int) - 1))))) ?_
    refine l_nil ?_
    refine AW.blk ?_
    refine AW.loopL (S := ((List Int) × Int)) (fun s => (fun (v6717 : List Int) (v6718 : Int) => [(1, .one (.ref 200001 0 0 0)), (2, .one (.view 200002 0 0 ((List.map (eInt .i64) v6510).length))), (3, .one (.view 200003 0 0 ((List.map (eInt .i64) v6717).length))), (8, .one (.d (.int .i64 v6718)))]) s.1 s.2) (fun s => (fun (v6717 : List Int) (v6718 : Int) => [(200001, .expl true 104 3 [[.d (.int .u8 t_68.slot), .d (.int .u8 t_68.start), .d (.sl (List.map TCall.enc t_68.calls))]]), (200002, .pure true 3 1 (List.map (eInt .i64) v6510)), (200003, .pure true 3 1 (List.map (eInt .i64) v6717))]) s.1 s.2) (fun (s : ((List Int) × Int)) N6762 => L68_4 t_68 K v6510 s.1 s.2 N6762) (N := fun s => LoopW (fun (s : ((List Int) × Int)) N6762 => L68_4 t_68 K v6510 s.1 s.2 N6762) s) (Lab.m (v6511, (w64 ((t_68.calls.length : Int) - 1))) [(200001, some 200001), (200002, some 200002), (200003, some 200003)] h) (fun _ h => h) ?_
    rintro ⟨v6717, v6718⟩ N6762 h
    have h : L68_4 t_68 K v6510 v6717 v6718 N6762 := h
    unfold L68_4 at h
    refine AW.seq ?_
    refine AW.sregL [(0, none), (1, none)] (by kernel_rfl) ?_
    refine l_ds 65 (.one (.d (.int .i64 v6718))) ?_
    refine l_ds 66 (.one (.d (.bool (decide (v6718 > 0))))) ?_
    refine l_nil ?_
    refine AW.cond' (by kernel_rfl) h (fun h => ?_) (fun h => ?_)
    · refine AW.skip ?_
      refine q_fall ?_
      refine AW.seqL (S := (List Int)) (fun s => (fun (v6791 : List Int) => [(1, .one (.ref 200001 0 0 0)), (2, .one (.view 200002 0 0 ((List.map (eInt .i64) v6510).length))), (3, .one (.view 200003 0 0 ((List.map (eInt .i64) v6791).length))), (8, .one (.d (.int .i64 v6718)))]) s) (fun s => (fun (v6791 : List Int) => [(200001, .expl true 104 3 [[.d (.int .u8 t_68.slot), .d (.int .u8 t_68.start), .d (.sl (List.map TCall.enc t_68.calls))]]), (200002, .pure true 3 1 (List.map (eInt .i64) v6510)), (200003, .pure true 3 1 (List.map (eInt .i64) v6791))]) s) (fun s : (List Int) => J68_5 N6762 v6718 s) ?_ ?_
      · refine AW.blk ?_
        refine AW.sregL [(0, none), (1, none), (2, none), (3, none), (4, none), (5, none), (6, none), (7, none), (8, none), (9, none), (10, none)] (by kernel_rfl) ?_
        refine l_ds 69 (.one (.ref 200001 0 0 2)) ?_
        refine l_ds 70 (.one (.d (.sl (List.map TCall.enc t_68.calls)))) ?_
        refine l_ds 71 (.one (.d (.int .i64 v6718))) ?_
        obtain ⟨h563, x6793, h564, h⟩ := h
        refine l_spec (some 72) (.iad 11 (.t 70) (.t 71)) (.one (.d (.ptr [.int .u8 x6793.parent, .int .u8 x6793.clock, .int .u8 x6793.kind, .int .u8 x6793.service, .int .u8 x6793.version, .int .u8 x6793.operation, .int .u8 x6793.wait, .int .u8 x6793.long, .int .u8 x6793.link, .int .u8 x6793.tag, .bool x6793.fail])), []) (by kernel_rfl) (detA_none (d_iad_sl (enc := TCall.enc) (k := .i64) t_68.calls x6793 (by kernel_rfl) (by kernel_rfl) h563 h564 rfl)) ?_
        refine l_ds 73 (.one (.d (.ptr [.int .u8 x6793.parent, .int .u8 x6793.clock, .int .u8 x6793.kind, .int .u8 x6793.service, .int .u8 x6793.version, .int .u8 x6793.operation, .int .u8 x6793.wait, .int .u8 x6793.long, .int .u8 x6793.link, .int .u8 x6793.tag, .bool x6793.fail]))) ?_
        refine l_ds 74 (.one (.d (.int .u8 x6793.parent))) ?_
        refine l_ds 75 (.one (.d (.int .i64 (w64 x6793.parent)))) ?_
        refine l_ds 76 (.one (.d (.int .i64 v6718))) ?_
        refine l_ds 77 (.one (.d (.int .i64 (w64 (v6718 + 1))))) ?_
        obtain ⟨h565, h⟩ := h
        refine l_spec (some 78) (.bin .rem (.t 75) (.t 77)) (.one (.d (.int .i64 (Int.tmod (w64 x6793.parent) (w64 (v6718 + 1))))), []) (by kernel_rfl) (detA_none (d_rem (w64 x6793.parent) (w64 (v6718 + 1)) (by kernel_rfl) (by kernel_rfl) h565)) ?_
        refine l_ds 9 (.one (.d (.int .i64 (Int.tmod (w64 x6793.parent) (w64 (v6718 + 1)))))) ?_
        refine l_nil ?_
        refine AW.seqL (S := Bool) (fun s => (fun (v6800 : Bool) => [(1, .one (.ref 200001 0 0 0)), (2, .one (.view 200002 0 0 ((List.map (eInt .i64) v6510).length))), (3, .one (.view 200003 0 0 ((List.map (eInt .i64) v6717).length))), (8, .one (.d (.int .i64 v6718))), (9, .one (.d (.int .i64 (Int.tmod (w64 x6793.parent) (w64 (v6718 + 1)))))), (108, .one (.d (.bool v6800)))]) s) (fun s => (fun (v6800 : Bool) => [(200001, .expl true 104 3 [[.d (.int .u8 t_68.slot), .d (.int .u8 t_68.start), .d (.sl (List.map TCall.enc t_68.calls))]]), (200002, .pure true 3 1 (List.map (eInt .i64) v6510)), (200003, .pure true 3 1 (List.map (eInt .i64) v6717))]) s) (fun s : Bool => J68_6 v6717 x6793 v6718 N6762 s) ?_ ?_
        · refine AW.regL [(0, none), (1, none), (2, none), (3, none), (4, none), (5, none), (6, none), (7, none), (8, none), (9, none), (10, none), (11, none), (12, none), (13, none), (14, none), (15, none), (16, none), (17, none), (18, none), (19, none), (20, none), (21, none), (22, none), (23, none), (24, none), (25, none), (26, none), (27, none), (28, none), (29, none)] (by kernel_rfl) ?_
          refine l_ds 79 (.one (.d (.int .i64 (Int.tmod (w64 x6793.parent) (w64 (v6718 + 1)))))) ?_
          refine l_ds 80 (.one (.d (.int .i64 v6718))) ?_
          refine l_ds 81 (.one (.d (.bool (decide ((Int.tmod (w64 x6793.parent) (w64 (v6718 + 1))) < v6718))))) ?_
          refine l_ds 82 (.one (.d (.bool (decide ((Int.tmod (w64 x6793.parent) (w64 (v6718 + 1))) < v6718))))) ?_
          refine l_split (s := 82) (by kernel_rfl) h (fun h => ?_) (fun h => ?_)
          · refine l_ds 83 (.one (.ref 200001 0 0 2)) ?_
            refine l_ds 84 (.one (.d (.sl (List.map TCall.enc t_68.calls)))) ?_
            refine l_ds 85 (.one (.d (.int .i64 v6718))) ?_
            refine l_spec (some 86) (.iad 11 (.t 84) (.t 85)) (.one (.d (.ptr [.int .u8 x6793.parent, .int .u8 x6793.clock, .int .u8 x6793.kind, .int .u8 x6793.service, .int .u8 x6793.version, .int .u8 x6793.operation, .int .u8 x6793.wait, .int .u8 x6793.long, .int .u8 x6793.link, .int .u8 x6793.tag, .bool x6793.fail])), []) (by kernel_rfl) (detA_none (d_iad_sl (enc := TCall.enc) (k := .i64) t_68.calls x6793 (by kernel_rfl) (by kernel_rfl) h563 h564 rfl)) ?_
            refine l_ds 87 (.agg [.d (.int .u8 x6793.parent), .d (.int .u8 x6793.clock), .d (.int .u8 x6793.kind), .d (.int .u8 x6793.service), .d (.int .u8 x6793.version), .d (.int .u8 x6793.operation), .d (.int .u8 x6793.wait), .d (.int .u8 x6793.long), .d (.int .u8 x6793.link), .d (.int .u8 x6793.tag), .d (.bool x6793.fail)]) ?_
            refine l_call ok83 en83 (some 88) [.agg [.d (.int .u8 x6793.parent), .d (.int .u8 x6793.clock), .d (.int .u8 x6793.kind), .d (.int .u8 x6793.service), .d (.int .u8 x6793.version), .d (.int .u8 x6793.operation), .d (.int .u8 x6793.wait), .d (.int .u8 x6793.long), .d (.int .u8 x6793.link), .d (.int .u8 x6793.tag), .d (.bool x6793.fail)]] [false] [.agg (List.map RC.d [.int .u8 x6793.parent, .int .u8 x6793.clock, .int .u8 x6793.kind, .int .u8 x6793.service, .int .u8 x6793.version, .int .u8 x6793.operation, .int .u8 x6793.wait, .int .u8 x6793.long, .int .u8 x6793.link, .int .u8 x6793.tag, .bool x6793.fail])] [] (by kernel_rfl) ⟨by kernel_rfl, by kernel_rfl⟩ (by kernel_rfl) (by kernel_rfl) (by kernel_rfl) (cl83 x6793 h) ?_
            rintro hR _ _ ⟨r6803, rfl, rfl, h⟩
            refine ⟨false, (.one (.d (.int .i64 r6803)), []), (fun hz => (by cases hz)), (ret_R hR (by kernel_rfl)), ?_⟩
            refine l_ds 89 (.one (.d (.bool (decide (r6803 = 3))))) ?_
            refine l_ds 90 (.one (.d (.bool (decide (r6803 = 3))))) ?_
            refine l_ds 91 (.one (.d (.bool (decide (r6803 = 3))))) ?_
            refine l_split (s := 91) (by kernel_rfl) h (fun h => ?_) (fun h => ?_)
            · refine l_ds 92 (.one (.ref 200001 0 0 2)) ?_
              refine l_ds 93 (.one (.d (.sl (List.map TCall.enc t_68.calls)))) ?_
              refine l_ds 94 (.one (.d (.int .i64 (Int.tmod (w64 x6793.parent) (w64 (v6718 + 1)))))) ?_
              obtain ⟨h580, x6804, h581, h⟩ := h
              refine l_spec (some 95) (.iad 11 (.t 93) (.t 94)) (.one (.d (.ptr [.int .u8 x6804.parent, .int .u8 x6804.clock, .int .u8 x6804.kind, .int .u8 x6804.service, .int .u8 x6804.version, .int .u8 x6804.operation, .int .u8 x6804.wait, .int .u8 x6804.long, .int .u8 x6804.link, .int .u8 x6804.tag, .bool x6804.fail])), []) (by kernel_rfl) (detA_none (d_iad_sl (enc := TCall.enc) (k := .i64) t_68.calls x6804 (by kernel_rfl) (by kernel_rfl) h580 h581 rfl)) ?_
              refine l_ds 96 (.agg [.d (.int .u8 x6804.parent), .d (.int .u8 x6804.clock), .d (.int .u8 x6804.kind), .d (.int .u8 x6804.service), .d (.int .u8 x6804.version), .d (.int .u8 x6804.operation), .d (.int .u8 x6804.wait), .d (.int .u8 x6804.long), .d (.int .u8 x6804.link), .d (.int .u8 x6804.tag), .d (.bool x6804.fail)]) ?_
              refine l_call ok83 en83 (some 97) [.agg [.d (.int .u8 x6804.parent), .d (.int .u8 x6804.clock), .d (.int .u8 x6804.kind), .d (.int .u8 x6804.service), .d (.int .u8 x6804.version), .d (.int .u8 x6804.operation), .d (.int .u8 x6804.wait), .d (.int .u8 x6804.long), .d (.int .u8 x6804.link), .d (.int .u8 x6804.tag), .d (.bool x6804.fail)]] [false] [.agg (List.map RC.d [.int .u8 x6804.parent, .int .u8 x6804.clock, .int .u8 x6804.kind, .int .u8 x6804.service, .int .u8 x6804.version, .int .u8 x6804.operation, .int .u8 x6804.wait, .int .u8 x6804.long, .int .u8 x6804.link, .int .u8 x6804.tag, .bool x6804.fail])] [] (by kernel_rfl) ⟨by kernel_rfl, by kernel_rfl⟩ (by kernel_rfl) (by kernel_rfl) (by kernel_rfl) (cl83 x6804 h) ?_
              rintro hR _ _ ⟨r6805, rfl, rfl, h⟩
              refine ⟨false, (.one (.d (.int .i64 r6805)), []), (fun hz => (by cases hz)), (ret_R hR (by kernel_rfl)), ?_⟩
              refine l_ds 98 (.one (.d (.bool (decide (r6805 = 2))))) ?_
              refine l_ds 99 (.one (.d (.bool (decide (r6805 = 2))))) ?_
              refine l_ds 100 (.one (.d (.bool (decide (r6805 = 2))))) ?_
              refine l_split (s := 100) (by kernel_rfl) h (fun h => ?_) (fun h => ?_)
              · refine l_ds 101 (.one (.ref 200001 0 0 2)) ?_
                refine l_ds 102 (.one (.d (.sl (List.map TCall.enc t_68.calls)))) ?_
                refine l_ds 103 (.one (.d (.int .i64 (Int.tmod (w64 x6793.parent) (w64 (v6718 + 1)))))) ?_
                refine l_spec (some 104) (.iad 11 (.t 102) (.t 103)) (.one (.d (.ptr [.int .u8 x6804.parent, .int .u8 x6804.clock, .int .u8 x6804.kind, .int .u8 x6804.service, .int .u8 x6804.version, .int .u8 x6804.operation, .int .u8 x6804.wait, .int .u8 x6804.long, .int .u8 x6804.link, .int .u8 x6804.tag, .bool x6804.fail])), []) (by kernel_rfl) (detA_none (d_iad_sl (enc := TCall.enc) (k := .i64) t_68.calls x6804 (by kernel_rfl) (by kernel_rfl) h580 h581 rfl)) ?_
                refine l_ds 105 (.one (.d (.ptr [.bool x6804.fail]))) ?_
                refine l_ds 106 (.one (.d (.bool x6804.fail))) ?_
                refine l_ds 107 (.one (.d (.bool (!x6804.fail)))) ?_
                refine l_ds 108 (.one (.d (.bool (!x6804.fail)))) ?_
                refine l_nil ?_
                refine q_fall ?_
                exact Lab.m (!x6804.fail) [(200001, some 200001), (200002, some 200002), (200003, some 200003)] h
              · refine l_ds 101 (.tup []) ?_
                refine l_ds 102 (.tup []) ?_
                refine l_ds 103 (.tup []) ?_
                refine l_ds 104 (.tup []) ?_
                refine l_ds 105 (.tup []) ?_
                refine l_ds 106 (.tup []) ?_
                refine l_ds 107 (.tup []) ?_
                refine l_ds 108 (.one (.d (.bool false))) ?_
                refine l_nil ?_
                refine q_fall ?_
                exact Lab.m false [(200001, some 200001), (200002, some 200002), (200003, some 200003)] h
            · refine l_ds 92 (.tup []) ?_
              refine l_ds 93 (.tup []) ?_
              refine l_ds 94 (.tup []) ?_
              refine l_ds 95 (.tup []) ?_
              refine l_ds 96 (.tup []) ?_
              refine l_skip (some 97) (by kernel_rfl) (by kernel_rfl) (by kernel_rfl) ?_
              refine l_ds 98 (.tup []) ?_
              refine l_ds 99 (.one (.d (.bool false))) ?_
              refine l_ds 100 (.one (.d (.bool false))) ?_
              refine l_ds 101 (.tup []) ?_
              refine l_ds 102 (.tup []) ?_
              refine l_ds 103 (.tup []) ?_
              refine l_ds 104 (.tup []) ?_
              refine l_ds 105 (.tup []) ?_
              refine l_ds 106 (.tup []) ?_
              refine l_ds 107 (.tup []) ?_
              refine l_ds 108 (.one (.d (.bool false))) ?_
              refine l_nil ?_
              refine q_fall ?_
              exact Lab.m false [(200001, some 200001), (200002, some 200002), (200003, some 200003)] h
          · refine l_ds 83 (.tup []) ?_
            refine l_ds 84 (.tup []) ?_
            refine l_ds 85 (.tup []) ?_
            refine l_ds 86 (.tup []) ?_
            refine l_ds 87 (.tup []) ?_
            refine l_skip (some 88) (by kernel_rfl) (by kernel_rfl) (by kernel_rfl) ?_
            refine l_ds 89 (.tup []) ?_
            refine l_ds 90 (.one (.d (.bool false))) ?_
            refine l_ds 91 (.one (.d (.bool false))) ?_
            refine l_ds 92 (.tup []) ?_
            refine l_ds 93 (.tup []) ?_
            refine l_ds 94 (.tup []) ?_
            refine l_ds 95 (.tup []) ?_
            refine l_ds 96 (.tup []) ?_
            refine l_skip (some 97) (by kernel_rfl) (by kernel_rfl) (by kernel_rfl) ?_
            refine l_ds 98 (.tup []) ?_
            refine l_ds 99 (.one (.d (.bool false))) ?_
            refine l_ds 100 (.one (.d (.bool false))) ?_
            refine l_ds 101 (.tup []) ?_
            refine l_ds 102 (.tup []) ?_
            refine l_ds 103 (.tup []) ?_
            refine l_ds 104 (.tup []) ?_
            refine l_ds 105 (.tup []) ?_
            refine l_ds 106 (.tup []) ?_
            refine l_ds 107 (.tup []) ?_
            refine l_ds 108 (.one (.d (.bool false))) ?_
            refine l_nil ?_
            refine q_fall ?_
            exact Lab.m false [(200001, some 200001), (200002, some 200002), (200003, some 200003)] h
        · rintro v6800 h
          have h : J68_6 v6717 x6793 v6718 N6762 v6800 := h
          unfold J68_6 at h
          refine AW.cond' (by kernel_rfl) h (fun h => ?_) (fun h => ?_)
          · refine AW.regdL follows_mixed [[], [], [], [], [2, 3], [2, 3, 4], [], [], [6, 7], [6, 7, 8], [2, 3, 4, 5, 6, 7, 8, 9], [0, 1, 2, 3, 4, 5, 6, 7, 8, 9, 10], [0, 1, 2, 3, 4, 5, 6, 7, 8, 9, 10, 11]] [(0, none), (1, none), (2, none), (3, none), (4, none), (5, none), (6, none), (7, none), (8, none), (9, none), (10, none), (11, none), (12, none)] (by kernel_rfl) ?_
            refine l_ds 109 (.one (.view 200003 0 0 ((List.map (eInt .i64) v6717).length))) ?_
            refine l_ds 110 (.one (.d (.int .i64 (Int.tmod (w64 x6793.parent) (w64 (v6718 + 1)))))) ?_
            refine l_ds 111 (.one (.view 200003 0 0 ((List.map (eInt .i64) v6717).length))) ?_
            refine l_ds 112 (.one (.d (.int .i64 (Int.tmod (w64 x6793.parent) (w64 (v6718 + 1)))))) ?_
            obtain ⟨h574, x6801, h575, h⟩ := h
            refine l_spec (some 113) (.iad 1 (.t 111) (.t 112)) (.one (.ref 200003 0 ((Int.tmod (w64 x6793.parent) (w64 (v6718 + 1))).toNat) 0), []) (by kernel_rfl) (detA_none (d_iad_v (enc := (eInt .i64)) (k := .i64) (E := 3) (l := true) (ys := dmm (List.map (eInt .i64) v6717)) v6717 x6801 (by kernel_rfl) (by kernel_rfl) (by kernel_rfl) (by kernel_rfl) h574 h575)) ?_
            refine l_spec (some 114) (.ld false 1 (.t 113)) (.one (.d (.int .i64 x6801)), []) (by kernel_rfl) (detA_none (d_ld_row (enc := (eInt .i64)) (o := 200003) (g := 0) (i := ((Int.tmod (w64 x6793.parent) (w64 (v6718 + 1))).toNat)) (off := 0) (E := 3) (sz := 1) (l := true) v6717 x6801 (by kernel_rfl) (by kernel_rfl) (by kernel_rfl) h575 (by kernel_rfl))) ?_
            refine l_ds 115 (.one (.view 200003 0 0 ((List.map (eInt .i64) v6717).length))) ?_
            refine l_ds 116 (.one (.d (.int .i64 v6718))) ?_
            obtain ⟨h576, x6802, h577, h⟩ := h
            refine l_spec (some 117) (.iad 1 (.t 115) (.t 116)) (.one (.ref 200003 0 v6718.toNat 0), []) (by kernel_rfl) (detA_none (d_iad_v (enc := (eInt .i64)) (k := .i64) (E := 3) (l := true) (ys := dmm (List.map (eInt .i64) v6717)) v6717 x6802 (by kernel_rfl) (by kernel_rfl) (by kernel_rfl) (by kernel_rfl) h576 h577)) ?_
            refine l_spec (some 118) (.ld false 1 (.t 117)) (.one (.d (.int .i64 x6802)), []) (by kernel_rfl) (detA_none (d_ld_row (enc := (eInt .i64)) (o := 200003) (g := 0) (i := v6718.toNat) (off := 0) (E := 3) (sz := 1) (l := true) v6717 x6802 (by kernel_rfl) (by kernel_rfl) (by kernel_rfl) h577 (by kernel_rfl))) ?_
            refine l_ds 119 (.one (.d (.int .i64 (if x6802 > x6801 then x6802 else x6801)))) ?_
            refine l_spec (some 120) (.iad 1 (.t 109) (.t 110)) (.one (.ref 200003 0 ((Int.tmod (w64 x6793.parent) (w64 (v6718 + 1))).toNat) 0), []) (by kernel_rfl) (detA_none (d_iad_v (enc := (eInt .i64)) (k := .i64) (E := 3) (l := true) (ys := dmm (List.map (eInt .i64) v6717)) v6717 x6801 (by kernel_rfl) (by kernel_rfl) (by kernel_rfl) (by kernel_rfl) h574 h575)) ?_
            have h578 := set_get (if x6802 > x6801 then x6802 else x6801) h575
            refine l_spec none (.st 1 (.t 120) (.t 119)) (.tup [], [(200003, 0, .row true 3 1 (dmm (List.map (eInt .i64) (List.set v6717 ((Int.tmod (w64 x6793.parent) (w64 (v6718 + 1))).toNat) (if x6802 > x6801 then x6802 else x6801)))))]) (by kernel_rfl) (detA_none (d_st_row (enc := (eInt .i64)) (i := ((Int.tmod (w64 x6793.parent) (w64 (v6718 + 1))).toNat)) (off := 0) (vs := [.d (.int .i64 (if x6802 > x6801 then x6802 else x6801))]) v6717 x6801 (if x6802 > x6801 then x6802 else x6801) (by kernel_rfl) (by kernel_rfl) (by kernel_rfl) h575 (by kernel_rfl) (by kernel_rfl) (by kernel_rfl))) ?_
            refine l_renorm 3 (.one (.view 200003 0 0 ((List.map (eInt .i64) (List.set v6717 ((Int.tmod (w64 x6793.parent) (w64 (v6718 + 1))).toNat) (if x6802 > x6801 then x6802 else x6801))).length))) (Eq.trans (b := .one (.view 200003 0 0 ((List.map (eInt .i64) v6717).length))) (by kernel_rfl) (by simp only [List.length_map, List.length_set, List.length_cons, List.length_nil])) ?_
            refine l_nil ?_
            refine q_bfall ?_
            refine q_fall ?_
            exact Lab.m (List.set v6717 ((Int.tmod (w64 x6793.parent) (w64 (v6718 + 1))).toNat) (if x6802 > x6801 then x6802 else x6801)) [(200001, some 200001), (200002, some 200002), (200003, some 200003)] h
          · refine AW.skip ?_
            refine q_bfall ?_
            refine q_fall ?_
            exact Lab.m v6717 [(200001, some 200001), (200002, some 200002), (200003, some 200003)] h
      · rintro v6791 h
        have h : J68_5 N6762 v6718 v6791 := h
        unfold J68_5 at h
        refine AW.regL [(0, none), (1, none), (2, none)] (by kernel_rfl) ?_
        refine l_ds 67 (.one (.d (.int .i64 v6718))) ?_
        refine l_ds 68 (.one (.d (.int .i64 (w64 (v6718 - 1))))) ?_
        refine l_ds 8 (.one (.d (.int .i64 (w64 (v6718 - 1))))) ?_
        refine l_nil ?_
        refine q_fall ?_
        exact Lab.m (v6791, (w64 (v6718 - 1))) [(200001, some 200001), (200002, some 200002), (200003, some 200003)] h
    · refine AW.exit ?_
      refine q_exit ?_
      refine q_exit ?_
      refine q_bhere ?_
      refine q_fall ?_
      refine AW.sregL [(0, none), (1, none), (2, none), (3, none)] (by kernel_rfl) ?_
      refine l_ds 121 (.one (.view 200002 0 0 ((List.map (eInt .i64) v6510).length))) ?_
      refine l_ds 122 (.one (.view 200003 0 0 ((List.map (eInt .i64) v6717).length))) ?_
      refine l_ds 2 (.one (.view 200002 0 0 ((List.map (eInt .i64) v6510).length))) ?_
      refine l_ds 3 (.one (.view 200003 0 0 ((List.map (eInt .i64) v6717).length))) ?_
      refine l_nil ?_
      refine AW.ret ?_
      exact q_end [.one (.view 200002 0 0 ((List.map (eInt .i64) v6510).length)), .one (.view 200003 0 0 ((List.map (eInt .i64) v6717).length))] [false, false] [.one (.d (.sl (List.map (eInt .i64) v6510))), .one (.d (.sl (List.map (eInt .i64) v6717)))] [] [200002, 200003] (by kernel_rfl) (ps_plain (pv_one (pf_view (E := 3) (sz := 1) (l := true) (List.map (eInt .i64) v6510) (by kernel_rfl) (by kernel_rfl) rfl)) (ps_plain (pv_one (pf_view (E := 3) (sz := 1) (l := true) (List.map (eInt .i64) v6717) (by kernel_rfl) (by kernel_rfl) rfl)) ps_nil)) (by kernel_rfl) (by kernel_rfl) (by kernel_rfl) (by kernel_rfl) (Eq.mp (by kernel_rfl) (hK (v6510, v6717) h)) (.inr rfl)
def r84_0 : List AR := [⟨some 1, .box 153 true 11 (.t 0), [], none⟩,
  ⟨some 2, .mov (.c .nils), [], none⟩]
def r84_1 : List AR := [⟨some 4, .fad (.t 1) 9, [], none⟩,
  ⟨some 5, .ld false 1 (.t 4), [0], none⟩,
  ⟨some 6, .bin .quo (.t 5) (.c (.int .u8 4)), [1], none⟩,
  ⟨some 7, .bin .rem (.t 6) (.c (.int .u8 2)), [2], none⟩,
  ⟨some 8, .cvi .i64 (.t 7), [3], none⟩,
  ⟨some 9, .bld [.int .i64 0, .str ⟨#[]⟩, .int .i64 0] [(0, 1, .c (.int .i64 3)), (2, 1, .t 8)], [4], none⟩,
  ⟨some 10, .bld [.str ⟨#[]⟩, .int .i64 0, .str ⟨#[]⟩, .int .i64 0] [(0, 1, .c (.str ⟨#[111, 107]⟩)), (1, 3, .t 9)], [5], none⟩,
  ⟨some 11, .fad (.t 1) 9, [], none⟩,
  ⟨some 12, .ld false 1 (.t 11), [7], none⟩,
  ⟨some 13, .cvi .i64 (.t 12), [8], none⟩,
  ⟨some 14, .bin .sub (.t 13) (.c (.int .i64 100)), [9], none⟩,
  ⟨some 15, .bld [.int .i64 0, .str ⟨#[]⟩, .int .i64 0] [(0, 1, .c (.int .i64 2)), (2, 1, .t 14)], [10], none⟩,
  ⟨some 16, .bld [.str ⟨#[]⟩, .int .i64 0, .str ⟨#[]⟩, .int .i64 0] [(0, 1, .c (.str ⟨#[115, 105, 122, 101]⟩)), (1, 3, .t 15)], [11], none⟩,
  ⟨some 17, .bsl 9 1 3 [.str ⟨#[]⟩] [(0, .c (.str ⟨#[97]⟩)), (1, .c (.str ⟨#[98]⟩)), (2, .c (.str ⟨#[119, 101, 115, 116, 32, 49]⟩))], [], none⟩,
  ⟨some 18, .fad (.t 1) 9, [], none⟩,
  ⟨some 19, .ld false 1 (.t 18), [14], none⟩,
  ⟨some 20, .bin .quo (.t 19) (.c (.int .u8 8)), [15], none⟩,
  ⟨some 21, .bin .rem (.t 20) (.c (.int .u8 3)), [16], none⟩,
  ⟨some 22, .iad 1 (.t 17) (.t 21), [13, 17], none⟩,
  ⟨some 23, .ld false 1 (.t 22), [18], none⟩,
  ⟨some 24, .bld [.int .i64 0, .str ⟨#[]⟩, .int .i64 0] [(0, 1, .c (.int .i64 1)), (1, 1, .t 23)], [19], none⟩,
  ⟨some 25, .bld [.str ⟨#[]⟩, .int .i64 0, .str ⟨#[]⟩, .int .i64 0] [(0, 1, .c (.str ⟨#[122, 111, 110, 101]⟩)), (1, 3, .t 24)], [20], none⟩,
  ⟨some 26, .bsl 141 4 3 [.str ⟨#[]⟩, .int .i64 0, .str ⟨#[]⟩, .int .i64 0] [(0, .t 10), (1, .t 16), (2, .t 25)], [6, 12, 21], none⟩,
  ⟨some 3, .mov (.t 26), [22, 0, 1, 2, 3, 4, 5, 6, 7, 8, 9, 10, 11, 12, 13, 14, 15, 16, 17, 18, 19, 20, 21, 22], none⟩]
def r84_2 : List AR := [⟨some 27, .mov (.t 3), [], none⟩,
  ⟨some 28, .fad (.t 1) 9, [], none⟩,
  ⟨some 29, .ld false 1 (.t 28), [1], none⟩,
  ⟨some 30, .bin .rem (.t 29) (.c (.int .u8 4)), [2], none⟩,
  ⟨some 31, .slc 4 (.t 27) none (some (.t 30)) none, [0, 3], none⟩,
  ⟨some 2, .mov (.t 31), [4, 0, 1, 2, 3, 4], none⟩]
def c84 : ACode := .seq (.reg r84_0 false) (.seq (.reg r84_1 true) (.seq (.reg r84_2 false) (.ret)))
theorem body84 : Try.f84.body.map (comp Try.prog 32) = some c84 := by kernel_rfl
theorem res84 : allSome (Try.f84.results.toList.map (compRes Try.prog)) = some [.s 2] := by kernel_rfl
theorem cok84 {S : FSpec} (h : ∀ args K, S args K → args.all argOk = true ∧ args.length ≤ 32 ∧ AW Try.prog 32 (some ownP) c84 (initS args) (retPost [.s 2] args K)) : COK Try.prog 84 S := of_body Try.func84 Try.ntmps84 body84 res84 h

/-- sleuth/sleuthlaw13.attrs -/
def W84 (c_84 : TCall) (K : (List TAttr) → Prop) : Prop :=
  Idx [(⟨#[97]⟩ : ByteArray), (⟨#[98]⟩ : ByteArray), (⟨#[119, 101, 115, 116, 32, 49]⟩ : ByteArray)] (Int.tmod (IntKind.wrap .u8 (Int.tdiv c_84.tag 8)) 3) fun x6838 => 0 ≤ (Int.tmod c_84.tag 4) ∧ (Int.tmod c_84.tag 4) ≤ ([(TAttr.mk (⟨#[111, 107]⟩ : ByteArray) (TValue.mk 3 (⟨#[]⟩ : ByteArray) (w64 (Int.tmod (IntKind.wrap .u8 (Int.tdiv c_84.tag 4)) 2)))), (TAttr.mk (⟨#[115, 105, 122, 101]⟩ : ByteArray) (TValue.mk 2 (⟨#[]⟩ : ByteArray) (w64 ((w64 c_84.tag) - 100)))), (TAttr.mk (⟨#[122, 111, 110, 101]⟩ : ByteArray) (TValue.mk 1 x6838 0))].length : Int) ∧ (K (List.take ((Int.tmod c_84.tag 4).toNat - 0) (List.drop 0 [(TAttr.mk (⟨#[111, 107]⟩ : ByteArray) (TValue.mk 3 (⟨#[]⟩ : ByteArray) (w64 (Int.tmod (IntKind.wrap .u8 (Int.tdiv c_84.tag 4)) 2)))), (TAttr.mk (⟨#[115, 105, 122, 101]⟩ : ByteArray) (TValue.mk 2 (⟨#[]⟩ : ByteArray) (w64 ((w64 c_84.tag) - 100)))), (TAttr.mk (⟨#[122, 111, 110, 101]⟩ : ByteArray) (TValue.mk 1 x6838 0))])))

def S84 : FSpec := fun args K => ∃ (c_84 : TCall), ∃ (Kr : (List TAttr) → Prop), args = [.agg (List.map RC.d (TCall.enc c_84))] ∧ W84 c_84 Kr ∧ ∀ r, Kr r → K (.one (.d (.sl (List.map TAttr.enc r)))) []

theorem en84 : enters Try.prog 84 = true := by unfold enters; rw [Try.func84]; rfl
theorem cl84 (c_84 : TCall) {Kr : (List TAttr) → Prop} (h : W84 c_84 Kr) : S84 [.agg (List.map RC.d (TCall.enc c_84))] (fun rv rows => ∃ r, rv = (.one (.d (.sl (List.map TAttr.enc r)))) ∧ rows = [] ∧ Kr r) := ⟨c_84, Kr, rfl, h, fun r hr => ⟨r, rfl, rfl, hr⟩⟩

theorem ok84 : COK Try.prog 84 S84 := by
  refine cok84 fun args K0 hS => ?_
  obtain ⟨c_84, K, rfl, h, hK⟩ := hS
  refine ⟨by kernel_rfl, by simp, ?_⟩
  unfold W84 at h
  refine AW.sregL [(0, none), (1, none)] (by kernel_rfl) ?_
  refine l_det (some 1) (.one (.ref 1 1 0 0), [(1, 1, .row true 153 11 [[.d (.int .u8 c_84.parent), .d (.int .u8 c_84.clock), .d (.int .u8 c_84.kind), .d (.int .u8 c_84.service), .d (.int .u8 c_84.version), .d (.int .u8 c_84.operation), .d (.int .u8 c_84.wait), .d (.int .u8 c_84.long), .d (.int .u8 c_84.link), .d (.int .u8 c_84.tag), .d (.bool c_84.fail)]])]) (by kernel_rfl) ?_
  refine l_ds 2 (.one (.nils)) ?_
  refine l_nil ?_
  refine AW.sregdL follows_mixed [[], [0], [0, 1], [0, 1, 2], [0, 1, 2, 3], [0, 1, 2, 3, 4], [0, 1, 2, 3, 4, 5], [], [7], [7, 8], [7, 8, 9], [7, 8, 9, 10], [7, 8, 9, 10, 11], [], [], [14], [14, 15], [14, 15, 16], [13, 14, 15, 16, 17], [13, 14, 15, 16, 17, 18], [13, 14, 15, 16, 17, 18, 19], [13, 14, 15, 16, 17, 18, 19, 20], [0, 1, 2, 3, 4, 5, 6, 7, 8, 9, 10, 11, 12, 13, 14, 15, 16, 17, 18, 19, 20, 21], [0, 1, 2, 3, 4, 5, 6, 7, 8, 9, 10, 11, 12, 13, 14, 15, 16, 17, 18, 19, 20, 21, 22]] [(0, none), (1, some [5, 1000001]), (2, none), (3, none), (4, none), (5, none), (6, none), (7, none), (8, some [12, 1000001]), (9, none), (10, none), (11, none), (12, none), (14, none), (15, some [19, 1000001]), (16, none), (17, none), (13, some [17]), (18, none), (19, none), (20, none), (21, none), (22, none), (23, none)] (by kernel_rfl) ?_
  refine l_ds 4 (.one (.ref 1 1 0 9)) ?_
  refine l_ds 5 (.one (.d (.int .u8 c_84.tag))) ?_
  refine l_ds 6 (.one (.d (.int .u8 (IntKind.wrap .u8 (Int.tdiv c_84.tag 4))))) ?_
  refine l_ds 7 (.one (.d (.int .u8 (Int.tmod (IntKind.wrap .u8 (Int.tdiv c_84.tag 4)) 2)))) ?_
  refine l_ds 8 (.one (.d (.int .i64 (w64 (Int.tmod (IntKind.wrap .u8 (Int.tdiv c_84.tag 4)) 2))))) ?_
  refine l_ds 9 (.agg [.d (.int .i64 3), .d (.str (⟨#[]⟩ : ByteArray)), .d (.int .i64 (w64 (Int.tmod (IntKind.wrap .u8 (Int.tdiv c_84.tag 4)) 2)))]) ?_
  refine l_ds 10 (.agg [.d (.str (⟨#[111, 107]⟩ : ByteArray)), .d (.int .i64 3), .d (.str (⟨#[]⟩ : ByteArray)), .d (.int .i64 (w64 (Int.tmod (IntKind.wrap .u8 (Int.tdiv c_84.tag 4)) 2)))]) ?_
  refine l_ds 11 (.one (.ref 1 1 0 9)) ?_
  refine l_ds 12 (.one (.d (.int .u8 c_84.tag))) ?_
  refine l_ds 13 (.one (.d (.int .i64 (w64 c_84.tag)))) ?_
  refine l_ds 14 (.one (.d (.int .i64 (w64 ((w64 c_84.tag) - 100))))) ?_
  refine l_ds 15 (.agg [.d (.int .i64 2), .d (.str (⟨#[]⟩ : ByteArray)), .d (.int .i64 (w64 ((w64 c_84.tag) - 100)))]) ?_
  refine l_ds 16 (.agg [.d (.str (⟨#[115, 105, 122, 101]⟩ : ByteArray)), .d (.int .i64 2), .d (.str (⟨#[]⟩ : ByteArray)), .d (.int .i64 (w64 ((w64 c_84.tag) - 100)))]) ?_
  refine l_ds 18 (.one (.ref 1 1 0 9)) ?_
  refine l_ds 19 (.one (.d (.int .u8 c_84.tag))) ?_
  refine l_ds 20 (.one (.d (.int .u8 (IntKind.wrap .u8 (Int.tdiv c_84.tag 8))))) ?_
  refine l_ds 21 (.one (.d (.int .u8 (Int.tmod (IntKind.wrap .u8 (Int.tdiv c_84.tag 8)) 3)))) ?_
  refine l_det (some 17) (.one (.view 17 1 0 3), [(17, 1, .row true 9 1 [[.d (.str (⟨#[97]⟩ : ByteArray))], [.d (.str (⟨#[98]⟩ : ByteArray))], [.d (.str (⟨#[119, 101, 115, 116, 32, 49]⟩ : ByteArray))]])]) (by kernel_rfl) ?_
  obtain ⟨h3, x6838, h4, h⟩ := h
  refine l_spec (some 22) (.iad 1 (.t 17) (.t 21)) (.one (.ref 17 1 ((Int.tmod (IntKind.wrap .u8 (Int.tdiv c_84.tag 8)) 3).toNat) 0), []) (by kernel_rfl) (detA_none (d_iad_v (enc := eStr) (k := .u8) (E := 9) (l := true) (ys := dmm (List.map eStr [(⟨#[97]⟩ : ByteArray), (⟨#[98]⟩ : ByteArray), (⟨#[119, 101, 115, 116, 32, 49]⟩ : ByteArray)])) [(⟨#[97]⟩ : ByteArray), (⟨#[98]⟩ : ByteArray), (⟨#[119, 101, 115, 116, 32, 49]⟩ : ByteArray)] x6838 (by kernel_rfl) (by kernel_rfl) (by kernel_rfl) (by kernel_rfl) h3 h4)) ?_
  refine l_spec (some 23) (.ld false 1 (.t 22)) (.one (.d (.str x6838)), []) (by kernel_rfl) (detA_none (d_ld_row (enc := eStr) (o := 17) (g := 1) (i := ((Int.tmod (IntKind.wrap .u8 (Int.tdiv c_84.tag 8)) 3).toNat)) (off := 0) (E := 9) (sz := 1) (l := true) [(⟨#[97]⟩ : ByteArray), (⟨#[98]⟩ : ByteArray), (⟨#[119, 101, 115, 116, 32, 49]⟩ : ByteArray)] x6838 (by kernel_rfl) (by kernel_rfl) (by kernel_rfl) h4 (by kernel_rfl))) ?_
  refine l_ds 24 (.agg [.d (.int .i64 1), .d (.str x6838), .d (.int .i64 0)]) ?_
  refine l_ds 25 (.agg [.d (.str (⟨#[122, 111, 110, 101]⟩ : ByteArray)), .d (.int .i64 1), .d (.str x6838), .d (.int .i64 0)]) ?_
  refine l_det (some 26) (.one (.view 26 1 0 3), [(26, 1, .row true 141 4 [[.d (.str (⟨#[111, 107]⟩ : ByteArray)), .d (.int .i64 3), .d (.str (⟨#[]⟩ : ByteArray)), .d (.int .i64 (w64 (Int.tmod (IntKind.wrap .u8 (Int.tdiv c_84.tag 4)) 2)))], [.d (.str (⟨#[115, 105, 122, 101]⟩ : ByteArray)), .d (.int .i64 2), .d (.str (⟨#[]⟩ : ByteArray)), .d (.int .i64 (w64 ((w64 c_84.tag) - 100)))], [.d (.str (⟨#[122, 111, 110, 101]⟩ : ByteArray)), .d (.int .i64 1), .d (.str x6838), .d (.int .i64 0)]])]) (by kernel_rfl) ?_
  refine l_ds 3 (.one (.view 26 1 0 3)) ?_
  refine l_nil ?_
  refine AW.sregL [(0, none), (1, none), (2, none), (3, none), (4, none), (5, none)] (by kernel_rfl) ?_
  refine l_ds 27 (.one (.view 26 1 0 3)) ?_
  refine l_ds 28 (.one (.ref 1 1 0 9)) ?_
  refine l_ds 29 (.one (.d (.int .u8 c_84.tag))) ?_
  refine l_ds 30 (.one (.d (.int .u8 (Int.tmod c_84.tag 4)))) ?_
  obtain ⟨h8, h9, h⟩ := h
  refine l_spec (some 31) (.slc 4 (.t 27) none (some (.t 30)) none) (.one (.view 26 1 0 ((Int.tmod c_84.tag 4).toNat - 0)), []) (by kernel_rfl) (detA_none (d_slc_vf (enc := TAttr.enc) (E := 141) (l := true) (ys := dmm (List.map TAttr.enc [(TAttr.mk (⟨#[111, 107]⟩ : ByteArray) (TValue.mk 3 (⟨#[]⟩ : ByteArray) (w64 (Int.tmod (IntKind.wrap .u8 (Int.tdiv c_84.tag 4)) 2)))), (TAttr.mk (⟨#[115, 105, 122, 101]⟩ : ByteArray) (TValue.mk 2 (⟨#[]⟩ : ByteArray) (w64 ((w64 c_84.tag) - 100)))), (TAttr.mk (⟨#[122, 111, 110, 101]⟩ : ByteArray) (TValue.mk 1 x6838 0))])) (lo' := none) (hi' := (some (Int.tmod c_84.tag 4))) [(TAttr.mk (⟨#[111, 107]⟩ : ByteArray) (TValue.mk 3 (⟨#[]⟩ : ByteArray) (w64 (Int.tmod (IntKind.wrap .u8 (Int.tdiv c_84.tag 4)) 2)))), (TAttr.mk (⟨#[115, 105, 122, 101]⟩ : ByteArray) (TValue.mk 2 (⟨#[]⟩ : ByteArray) (w64 ((w64 c_84.tag) - 100)))), (TAttr.mk (⟨#[122, 111, 110, 101]⟩ : ByteArray) (TValue.mk 1 x6838 0))] (by kernel_rfl) (by kernel_rfl) (by kernel_rfl) (by kernel_rfl) (by kernel_rfl) (b_hi h8 h9))) ?_
  refine l_ds 2 (.one (.view 26 1 0 ((Int.tmod c_84.tag 4).toNat - 0))) ?_
  refine l_nil ?_
  refine AW.ret ?_
  exact q_end [.one (.view 26 1 0 ((Int.tmod c_84.tag 4).toNat - 0))] [false] [.one (.d (.sl (List.map TAttr.enc (List.take ((Int.tmod c_84.tag 4).toNat - 0) (List.drop 0 [(TAttr.mk (⟨#[111, 107]⟩ : ByteArray) (TValue.mk 3 (⟨#[]⟩ : ByteArray) (w64 (Int.tmod (IntKind.wrap .u8 (Int.tdiv c_84.tag 4)) 2)))), (TAttr.mk (⟨#[115, 105, 122, 101]⟩ : ByteArray) (TValue.mk 2 (⟨#[]⟩ : ByteArray) (w64 ((w64 c_84.tag) - 100)))), (TAttr.mk (⟨#[122, 111, 110, 101]⟩ : ByteArray) (TValue.mk 1 x6838 0))])))))] [] [26] (by kernel_rfl) (ps_plain (pv_one (pf_part (enc := TAttr.enc) (E := 141) (sz := 4) (l := true) [(TAttr.mk (⟨#[111, 107]⟩ : ByteArray) (TValue.mk 3 (⟨#[]⟩ : ByteArray) (w64 (Int.tmod (IntKind.wrap .u8 (Int.tdiv c_84.tag 4)) 2)))), (TAttr.mk (⟨#[115, 105, 122, 101]⟩ : ByteArray) (TValue.mk 2 (⟨#[]⟩ : ByteArray) (w64 ((w64 c_84.tag) - 100)))), (TAttr.mk (⟨#[122, 111, 110, 101]⟩ : ByteArray) (TValue.mk 1 x6838 0))] (by kernel_rfl) (by kernel_rfl) (by simp only [List.length_map, List.length_cons, List.length_nil] at *; omega))) ps_nil) (by kernel_rfl) (by kernel_rfl) (by kernel_rfl) (by kernel_rfl) (Eq.mp (by kernel_rfl) (hK (List.take ((Int.tmod c_84.tag 4).toNat - 0) (List.drop 0 [(TAttr.mk (⟨#[111, 107]⟩ : ByteArray) (TValue.mk 3 (⟨#[]⟩ : ByteArray) (w64 (Int.tmod (IntKind.wrap .u8 (Int.tdiv c_84.tag 4)) 2)))), (TAttr.mk (⟨#[115, 105, 122, 101]⟩ : ByteArray) (TValue.mk 2 (⟨#[]⟩ : ByteArray) (w64 ((w64 c_84.tag) - 100)))), (TAttr.mk (⟨#[122, 111, 110, 101]⟩ : ByteArray) (TValue.mk 1 x6838 0))])) h)) (.inr rfl)
def r69_0 : List AR := [⟨some 5, .box 27 true 7 (.t 0), [], none⟩,
  ⟨some 10, .alloc 58 true [.int .i64 0, .int .i64 0, .int .i64 0, .int .i64 0, .int .i64 0, .int .i64 0, .str ⟨#[]⟩, .str ⟨#[]⟩, .str ⟨#[]⟩, .int .i64 0, .int .i64 0, .bool false, .nils, .nils], [], none⟩]
def r69_1 : List AR := [⟨some 15, .fad (.t 5) 0, [], none⟩,
  ⟨some 16, .ld false 1 (.t 15), [0], none⟩,
  ⟨some 17, .mov (.t 1), [], none⟩,
  ⟨some 18, .iad 3 (.t 16) (.t 17), [1, 2], none⟩,
  ⟨some 19, .fad (.t 18) 2, [3], none⟩,
  ⟨some 20, .ld false 1 (.t 19), [4], none⟩,
  ⟨some 21, .mov (.t 2), [], none⟩,
  ⟨some 22, .iad 11 (.t 20) (.t 21), [5, 6], none⟩,
  ⟨some 23, .ld true 11 (.t 22), [7], none⟩,
  ⟨some 11, .alloc 153 true [.int .u8 0, .int .u8 0, .int .u8 0, .int .u8 0, .int .u8 0, .int .u8 0, .int .u8 0, .int .u8 0, .int .u8 0, .int .u8 0, .bool false], [], none⟩,
  ⟨none, .st 11 (.t 11) (.t 23), [9, 8, 0, 1, 2, 3, 4, 5, 6, 7, 8, 9], none⟩]
def r69_2 : List AR := [⟨some 24, .ld true 7 (.t 5), [], none⟩,
  ⟨some 25, .mov (.t 1), [], none⟩,
  ⟨some 26, .call 41 [.t 24, .t 25], [0, 1], none⟩,
  ⟨some 27, .mov (.t 2), [], none⟩,
  ⟨some 28, .bin .add (.t 27) (.c (.int .i64 1)), [3], none⟩,
  ⟨some 29, .fad (.t 11) 1, [], none⟩,
  ⟨some 30, .ld false 1 (.t 29), [5], none⟩,
  ⟨some 31, .bin .rem (.t 30) (.c (.int .u8 4)), [6], none⟩,
  ⟨some 32, .cvi .i64 (.t 31), [7], none⟩,
  ⟨some 33, .bin .add (.c (.int .i64 1)) (.t 32), [8], none⟩,
  ⟨some 34, .ld true 11 (.t 11), [], none⟩,
  ⟨some 35, .call 83 [.t 34], [10, 2], none⟩,
  ⟨some 36, .fad (.t 11) 10, [], none⟩,
  ⟨some 37, .ld false 1 (.t 36), [12], none⟩,
  ⟨some 38, .mov (.t 3), [], none⟩,
  ⟨some 39, .mov (.t 2), [], none⟩,
  ⟨some 40, .iad 1 (.t 38) (.t 39), [14, 15], none⟩,
  ⟨some 41, .ld false 1 (.t 40), [16], none⟩,
  ⟨some 42, .mov (.t 4), [], none⟩,
  ⟨some 43, .mov (.t 2), [], none⟩,
  ⟨some 44, .iad 1 (.t 42) (.t 43), [18, 19], none⟩,
  ⟨some 45, .ld false 1 (.t 44), [20], none⟩,
  ⟨some 46, .bld [.int .i64 0, .int .i64 0, .int .i64 0, .int .i64 0, .int .i64 0, .int .i64 0, .str ⟨#[]⟩, .str ⟨#[]⟩, .str ⟨#[]⟩, .int .i64 0, .int .i64 0, .bool false, .nils, .nils] [(0, 1, .t 26), (1, 1, .t 28), (4, 1, .t 33), (5, 1, .t 35), (11, 1, .t 37), (9, 1, .t 41), (10, 1, .t 45)], [2, 4, 9, 11, 13, 17, 21], none⟩,
  ⟨some 12, .alloc 58 true [.int .i64 0, .int .i64 0, .int .i64 0, .int .i64 0, .int .i64 0, .int .i64 0, .str ⟨#[]⟩, .str ⟨#[]⟩, .str ⟨#[]⟩, .int .i64 0, .int .i64 0, .bool false, .nils, .nils], [], none⟩,
  ⟨none, .st 14 (.t 12) (.t 46), [23, 22, 11, 0, 1, 2, 3, 4, 5, 6, 7, 8, 9, 10, 11, 12, 13, 14, 15, 16, 17, 18, 19, 20, 21, 22, 23], none⟩]
def r69_3 : List AR := [⟨some 47, .bsl 9 1 4 [.str ⟨#[]⟩] [(0, .c (.str ⟨#[97, 112, 105]⟩)), (1, .c (.str ⟨#[100, 98]⟩)), (2, .c (.str ⟨#[119, 101, 98]⟩)), (3, .c (.str ⟨#[99, 97, 99, 104, 101]⟩))], [], none⟩,
  ⟨some 48, .fad (.t 11) 3, [], none⟩,
  ⟨some 49, .ld false 1 (.t 48), [1], none⟩,
  ⟨some 50, .bin .rem (.t 49) (.c (.int .u8 4)), [2], none⟩,
  ⟨some 51, .iad 1 (.t 47) (.t 50), [0, 3], none⟩,
  ⟨some 52, .ld false 1 (.t 51), [4], none⟩,
  ⟨some 53, .fad (.t 12) 6, [0, 1, 2, 3, 4, 5], none⟩,
  ⟨none, .st 1 (.t 53) (.t 52), [6, 5, 0, 1, 2, 3, 4, 5], none⟩]
def r69_4 : List AR := [⟨some 54, .bsl 9 1 3 [.str ⟨#[]⟩] [(0, .c (.str ⟨#[118, 49]⟩)), (1, .c (.str ⟨#[118, 50]⟩)), (2, .c (.str ⟨#[]⟩))], [], none⟩,
  ⟨some 55, .fad (.t 11) 4, [], none⟩,
  ⟨some 56, .ld false 1 (.t 55), [1], none⟩,
  ⟨some 57, .bin .rem (.t 56) (.c (.int .u8 3)), [2], none⟩,
  ⟨some 58, .iad 1 (.t 54) (.t 57), [0, 3], none⟩,
  ⟨some 59, .ld false 1 (.t 58), [4], none⟩,
  ⟨some 60, .fad (.t 12) 7, [0, 1, 2, 3, 4, 5], none⟩,
  ⟨none, .st 1 (.t 60) (.t 59), [6, 5, 0, 1, 2, 3, 4, 5], none⟩]
def r69_5 : List AR := [⟨some 61, .bsl 9 1 3 [.str ⟨#[]⟩] [(0, .c (.str ⟨#[103, 101, 116]⟩)), (1, .c (.str ⟨#[112, 117, 116]⟩)), (2, .c (.str ⟨#[108, 105, 115, 116]⟩))], [], none⟩,
  ⟨some 62, .fad (.t 11) 5, [], none⟩,
  ⟨some 63, .ld false 1 (.t 62), [1], none⟩,
  ⟨some 64, .bin .rem (.t 63) (.c (.int .u8 3)), [2], none⟩,
  ⟨some 65, .iad 1 (.t 61) (.t 64), [0, 3], none⟩,
  ⟨some 66, .ld false 1 (.t 65), [4], none⟩,
  ⟨some 67, .fad (.t 12) 8, [0, 1, 2, 3, 4, 5], none⟩,
  ⟨none, .st 1 (.t 67) (.t 66), [6, 5, 0, 1, 2, 3, 4, 5], none⟩]
def r69_6 : List AR := [⟨some 68, .fad (.t 11) 0, [], none⟩,
  ⟨some 69, .ld false 1 (.t 68), [0], none⟩,
  ⟨some 70, .cvi .i64 (.t 69), [1], none⟩,
  ⟨some 71, .mov (.t 2), [], none⟩,
  ⟨some 72, .bin .add (.t 71) (.c (.int .i64 1)), [3], none⟩,
  ⟨some 73, .bin .rem (.t 70) (.t 72), [2, 4], none⟩,
  ⟨some 13, .mov (.t 73), [5, 0, 1, 2, 3, 4, 5], none⟩]
def r69_7 : List AR := [⟨some 74, .mov (.t 13), [], none⟩,
  ⟨some 75, .mov (.t 2), [], none⟩,
  ⟨some 76, .bin .lss (.t 74) (.t 75), [0, 1], none⟩]
def r69_8 : List AR := [⟨some 77, .mov (.t 13), [], none⟩,
  ⟨some 78, .bin .add (.t 77) (.c (.int .i64 1)), [0], none⟩,
  ⟨some 79, .fad (.t 12) 2, [0, 1], none⟩,
  ⟨none, .st 1 (.t 79) (.t 78), [2, 1, 0, 1], none⟩]
def r69_9 : List AR := [⟨some 80, .mov (.t 2), [], none⟩,
  ⟨some 81, .bin .gtr (.t 80) (.c (.int .i64 0)), [0], none⟩]
def r69_10 : List AR := [⟨some 82, .fad (.t 12) 2, [], none⟩,
  ⟨none, .st 1 (.t 82) (.c (.int .i64 100)), [0], none⟩]
def r69_11 : List AR := [⟨some 83, .fad (.t 11) 8, [], none⟩,
  ⟨some 84, .ld false 1 (.t 83), [0], none⟩,
  ⟨some 85, .bin .rem (.t 84) (.c (.int .u8 16)), [1], none⟩,
  ⟨some 86, .cvi .i64 (.t 85), [2], none⟩,
  ⟨some 14, .mov (.t 86), [3, 0, 1, 2, 3], none⟩]
def r69_12 : List AR := [⟨some 87, .mov (.t 14), [], none⟩,
  ⟨some 88, .mov (.t 2), [], none⟩,
  ⟨some 89, .bin .lss (.t 87) (.t 88), [0, 1], none⟩,
  ⟨some 90, .mov (.t 89), [2], none⟩,
  ⟨some 91, .mov (.t 3), [3], some (90, true)⟩,
  ⟨some 92, .mov (.t 14), [3], some (90, true)⟩,
  ⟨some 93, .iad 1 (.t 91) (.t 92), [4, 5, 3], some (90, true)⟩,
  ⟨some 94, .ld false 1 (.t 93), [6, 3], some (90, true)⟩,
  ⟨some 95, .mov (.t 3), [3], some (90, true)⟩,
  ⟨some 96, .mov (.t 2), [3], some (90, true)⟩,
  ⟨some 97, .iad 1 (.t 95) (.t 96), [8, 9, 3], some (90, true)⟩,
  ⟨some 98, .ld false 1 (.t 97), [10, 3], some (90, true)⟩,
  ⟨some 99, .bin .leq (.t 94) (.t 98), [7, 11, 3], some (90, true)⟩,
  ⟨some 100, .pick (.t 90) (.t 99) (.c (.bool false)), [3, 12], none⟩]
def r69_13 : List AR := [⟨some 101, .fad (.t 12) 0, [], none⟩,
  ⟨some 102, .ld false 1 (.t 101), [0], none⟩,
  ⟨some 103, .mov (.t 14), [], none⟩,
  ⟨some 104, .bin .add (.t 103) (.c (.int .i64 1)), [2], none⟩,
  ⟨some 105, .bld [.int .i64 0, .int .i64 0] [(0, 1, .t 102), (1, 1, .t 104)], [1, 3], none⟩,
  ⟨some 106, .bsl 146 2 1 [.int .i64 0, .int .i64 0] [(0, .t 105)], [4], none⟩,
  ⟨some 107, .fad (.t 12) 13, [0, 1, 2, 3, 4, 5], none⟩,
  ⟨none, .st 1 (.t 107) (.t 106), [6, 5, 0, 1, 2, 3, 4, 5], none⟩]
def r69_14 : List AR := [⟨some 108, .ld true 11 (.t 11), [], none⟩,
  ⟨some 109, .call 84 [.t 108], [0], none⟩,
  ⟨some 110, .fad (.t 12) 12, [0, 1], none⟩,
  ⟨none, .st 1 (.t 110) (.t 109), [2, 1, 1, 0, 1], none⟩]
def r69_15 : List AR := [⟨some 111, .ld true 14 (.t 12), [], none⟩,
  ⟨none, .st 14 (.t 10) (.t 111), [0, 0], none⟩]
def c69 : ACode := .seq (.reg r69_0 false) (.seq (.reg r69_1 false) (.seq (.reg r69_2 true) (.seq (.reg r69_3 false) (.seq (.reg r69_4 false) (.seq (.reg r69_5 false) (.seq (.seq (.reg r69_6 false) (.seq (.reg r69_7 false) (.cond (.t 76) (.reg r69_8 false) (.seq (.reg r69_9 false) (.cond (.t 81) (.reg r69_10 false) (.skip)))))) (.seq (.seq (.reg r69_11 false) (.seq (.reg r69_12 true) (.cond (.t 100) (.reg r69_13 false) (.skip)))) (.seq (.reg r69_14 false) (.seq (.reg r69_15 false) (.ret))))))))))
theorem body69 : Try.f69.body.map (comp Try.prog 112) = some c69 := by kernel_rfl
theorem res69 : allSome (Try.f69.results.toList.map (compRes Try.prog)) = some [.c 10 true 14] := by kernel_rfl
theorem cok69 {S : FSpec} (h : ∀ args K, S args K → args.all argOk = true ∧ args.length ≤ 112 ∧ AW Try.prog 112 (some ownP) c69 (initS args) (retPost [.c 10 true 14] args K)) : COK Try.prog 69 S := of_body Try.func69 Try.ntmps69 body69 res69 h

def J69_2 (x6812 : TCall) (K : TSpan → Prop) (r6819 : Int) (i_69 : Int) (v6827 : Int) (r6820 : Int) (x6822 : ByteArray) (x6824 : ByteArray) (x6826 : ByteArray) (x6817 : Int) (x6818 : Int) (v6836 : List TRef) : Prop :=
  W84 x6812 fun r6840 => K (TSpan.mk r6819 (w64 (i_69 + 1)) v6827 0 (w64 (1 + (w64 (Int.tmod x6812.clock 4)))) r6820 x6822 x6824 x6826 x6817 x6818 x6812.fail r6840 v6836)

def J69_3 (x6812 : TCall) (K : TSpan → Prop) (r6819 : Int) (i_69 : Int) (v6827 : Int) (r6820 : Int) (x6822 : ByteArray) (x6824 : ByteArray) (x6826 : ByteArray) (x6817 : Int) (x6818 : Int) (v6843 : Bool) : Prop :=
  Cond v6843 (J69_2 x6812 K r6819 i_69 v6827 r6820 x6822 x6824 x6826 x6817 x6818 [(TRef.mk r6819 (w64 ((w64 (Int.tmod x6812.link 16)) + 1)))]) (J69_2 x6812 K r6819 i_69 v6827 r6820 x6822 x6824 x6826 x6817 x6818 [])

def J69_1 (x6812 : TCall) (i_69 : Int) (start_69 : List Int) (K : TSpan → Prop) (r6819 : Int) (r6820 : Int) (x6822 : ByteArray) (x6824 : ByteArray) (x6826 : ByteArray) (x6817 : Int) (x6818 : Int) (v6827 : Int) : Prop :=
  Cond (decide ((w64 (Int.tmod x6812.link 16)) < i_69)) (Idx start_69 (w64 (Int.tmod x6812.link 16)) fun x6844 => J69_3 x6812 K r6819 i_69 v6827 r6820 x6822 x6824 x6826 x6817 x6818 (decide (x6844 ≤ x6817))) (J69_3 x6812 K r6819 i_69 v6827 r6820 x6822 x6824 x6826 x6817 x6818 false)

/-- sleuth/sleuthlaw13.made -/
def W69 (s_69 : TStory) (k_69 : Int) (i_69 : Int) (start_69 : List Int) (end_4_69 : List Int) (K : TSpan → Prop) : Prop :=
  Idx s_69.trees k_69 fun x6811 => Idx x6811.calls i_69 fun x6812 => Idx start_69 i_69 fun x6817 => Idx end_4_69 i_69 fun x6818 => W41 s_69 k_69 fun r6819 => W83 x6812 fun r6820 => Idx [(⟨#[97, 112, 105]⟩ : ByteArray), (⟨#[100, 98]⟩ : ByteArray), (⟨#[119, 101, 98]⟩ : ByteArray), (⟨#[99, 97, 99, 104, 101]⟩ : ByteArray)] (Int.tmod x6812.service 4) fun x6822 => Idx [(⟨#[118, 49]⟩ : ByteArray), (⟨#[118, 50]⟩ : ByteArray), (⟨#[]⟩ : ByteArray)] (Int.tmod x6812.version 3) fun x6824 => Idx [(⟨#[103, 101, 116]⟩ : ByteArray), (⟨#[112, 117, 116]⟩ : ByteArray), (⟨#[108, 105, 115, 116]⟩ : ByteArray)] (Int.tmod x6812.operation 3) fun x6826 => (w64 (i_69 + 1)) ≠ 0 ∧ (Cond (decide ((Int.tmod (w64 x6812.parent) (w64 (i_69 + 1))) < i_69)) (J69_1 x6812 i_69 start_69 K r6819 r6820 x6822 x6824 x6826 x6817 x6818 (w64 ((Int.tmod (w64 x6812.parent) (w64 (i_69 + 1))) + 1))) (Cond (decide (i_69 > 0)) (J69_1 x6812 i_69 start_69 K r6819 r6820 x6822 x6824 x6826 x6817 x6818 100) (J69_1 x6812 i_69 start_69 K r6819 r6820 x6822 x6824 x6826 x6817 x6818 0)))

def S69 : FSpec := fun args K => ∃ (s_69 : TStory), ∃ (k_69 : Int), ∃ (i_69 : Int), ∃ (start_69 : List Int), ∃ (end_4_69 : List Int), ∃ (Kr : TSpan → Prop), args = [.agg (List.map RC.d (TStory.enc s_69)), .one (.d (.int .i64 k_69)), .one (.d (.int .i64 i_69)), .one (.d (.sl (List.map (eInt .i64) start_69))), .one (.d (.sl (List.map (eInt .i64) end_4_69)))] ∧ W69 s_69 k_69 i_69 start_69 end_4_69 Kr ∧ ∀ r, Kr r → K (.agg (List.map RC.d (TSpan.enc r))) []

theorem en69 : enters Try.prog 69 = true := by unfold enters; rw [Try.func69]; rfl
theorem cl69 (s_69 : TStory) (k_69 : Int) (i_69 : Int) (start_69 : List Int) (end_4_69 : List Int) {Kr : TSpan → Prop} (h : W69 s_69 k_69 i_69 start_69 end_4_69 Kr) : S69 [.agg (List.map RC.d (TStory.enc s_69)), .one (.d (.int .i64 k_69)), .one (.d (.int .i64 i_69)), .one (.d (.sl (List.map (eInt .i64) start_69))), .one (.d (.sl (List.map (eInt .i64) end_4_69)))] (fun rv rows => ∃ r, rv = (.agg (List.map RC.d (TSpan.enc r))) ∧ rows = [] ∧ Kr r) := ⟨s_69, k_69, i_69, start_69, end_4_69, Kr, rfl, h, fun r hr => ⟨r, rfl, rfl, hr⟩⟩

theorem ok69 : COK Try.prog 69 S69 := by
  refine cok69 fun args K0 hS => ?_
  obtain ⟨s_69, k_69, i_69, start_69, end_4_69, K, rfl, h, hK⟩ := hS
  refine ⟨by kernel_rfl, by simp, ?_⟩
  unfold W69 at h
  refine AW.sregL [(0, none), (1, none)] (by kernel_rfl) ?_
  refine l_det (some 5) (.one (.ref 5 1 0 0), [(5, 1, .row true 27 7 [[.d (.sl (List.map TTree.enc s_69.trees)), .d (.int .i8 s_69.offsets.e0), .d (.int .i8 s_69.offsets.e1), .d (.int .i8 s_69.offsets.e2), .d (.int .i8 s_69.offsets.e3), .d (.sl (List.map TSync.enc s_69.syncs)), .d (.int .u8 s_69.wrong)]])]) (by kernel_rfl) ?_
  refine l_det (some 10) (.one (.ref 10 1 0 0), [(10, 1, .row true 58 14 [[.d (.int .i64 0), .d (.int .i64 0), .d (.int .i64 0), .d (.int .i64 0), .d (.int .i64 0), .d (.int .i64 0), .d (.str (⟨#[]⟩ : ByteArray)), .d (.str (⟨#[]⟩ : ByteArray)), .d (.str (⟨#[]⟩ : ByteArray)), .d (.int .i64 0), .d (.int .i64 0), .d (.bool false), .nils, .nils]])]) (by kernel_rfl) ?_
  refine l_nil ?_
  refine AW.sregL [(0, none), (1, none), (2, none), (3, none), (4, none), (5, none), (6, none), (7, none), (8, none), (9, none), (10, none)] (by kernel_rfl) ?_
  refine l_ds 15 (.one (.ref 5 1 0 0)) ?_
  refine l_ds 16 (.one (.d (.sl (List.map TTree.enc s_69.trees)))) ?_
  refine l_ds 17 (.one (.d (.int .i64 k_69))) ?_
  obtain ⟨h5, x6811, h6, h⟩ := h
  refine l_spec (some 18) (.iad 3 (.t 16) (.t 17)) (.one (.d (.ptr [.int .u8 x6811.slot, .int .u8 x6811.start, .sl (List.map TCall.enc x6811.calls)])), []) (by kernel_rfl) (detA_none (d_iad_sl (enc := TTree.enc) (k := .i64) s_69.trees x6811 (by kernel_rfl) (by kernel_rfl) h5 h6 rfl)) ?_
  refine l_ds 19 (.one (.d (.ptr [.sl (List.map TCall.enc x6811.calls)]))) ?_
  refine l_ds 20 (.one (.d (.sl (List.map TCall.enc x6811.calls)))) ?_
  refine l_ds 21 (.one (.d (.int .i64 i_69))) ?_
  obtain ⟨h7, x6812, h8, h⟩ := h
  refine l_spec (some 22) (.iad 11 (.t 20) (.t 21)) (.one (.d (.ptr [.int .u8 x6812.parent, .int .u8 x6812.clock, .int .u8 x6812.kind, .int .u8 x6812.service, .int .u8 x6812.version, .int .u8 x6812.operation, .int .u8 x6812.wait, .int .u8 x6812.long, .int .u8 x6812.link, .int .u8 x6812.tag, .bool x6812.fail])), []) (by kernel_rfl) (detA_none (d_iad_sl (enc := TCall.enc) (k := .i64) x6811.calls x6812 (by kernel_rfl) (by kernel_rfl) h7 h8 rfl)) ?_
  refine l_ds 23 (.agg [.d (.int .u8 x6812.parent), .d (.int .u8 x6812.clock), .d (.int .u8 x6812.kind), .d (.int .u8 x6812.service), .d (.int .u8 x6812.version), .d (.int .u8 x6812.operation), .d (.int .u8 x6812.wait), .d (.int .u8 x6812.long), .d (.int .u8 x6812.link), .d (.int .u8 x6812.tag), .d (.bool x6812.fail)]) ?_
  refine l_det (some 11) (.one (.ref 11 1 0 0), [(11, 1, .row true 153 11 [[.d (.int .u8 0), .d (.int .u8 0), .d (.int .u8 0), .d (.int .u8 0), .d (.int .u8 0), .d (.int .u8 0), .d (.int .u8 0), .d (.int .u8 0), .d (.int .u8 0), .d (.int .u8 0), .d (.bool false)]])]) (by kernel_rfl) ?_
  refine l_det none (.tup [], [(11, 1, .row true 153 11 [[.d (.int .u8 x6812.parent), .d (.int .u8 x6812.clock), .d (.int .u8 x6812.kind), .d (.int .u8 x6812.service), .d (.int .u8 x6812.version), .d (.int .u8 x6812.operation), .d (.int .u8 x6812.wait), .d (.int .u8 x6812.long), .d (.int .u8 x6812.link), .d (.int .u8 x6812.tag), .d (.bool x6812.fail)]])]) (by kernel_rfl) ?_
  refine l_nil ?_
  refine AW.sregdL follows_mixed [[], [], [0, 1], [], [3], [], [5], [5, 6], [5, 6, 7], [5, 6, 7, 8], [], [0, 1, 2, 10], [], [12], [], [], [14, 15], [14, 15, 16], [], [], [18, 19], [18, 19, 20], [0, 1, 2, 3, 4, 5, 6, 7, 8, 9, 10, 11, 12, 13, 14, 15, 16, 17, 18, 19, 20, 21], [], [0, 1, 2, 3, 4, 5, 6, 7, 8, 9, 10, 11, 12, 13, 14, 15, 16, 17, 18, 19, 20, 21, 22, 23]] [(0, some [24, 1000005]), (1, none), (3, none), (4, none), (5, none), (6, some [30, 1000011]), (7, none), (8, none), (9, none), (10, some [34, 1000011]), (12, none), (13, some [37, 1000011]), (14, none), (15, none), (16, some [40]), (17, some [41]), (18, none), (19, none), (20, some [44]), (21, some [45]), (23, some [12]), (2, some [26]), (11, some [35]), (22, none), (24, none)] (by kernel_rfl) ?_
  refine l_ds 24 (.agg [.d (.sl (List.map TTree.enc s_69.trees)), .d (.int .i8 s_69.offsets.e0), .d (.int .i8 s_69.offsets.e1), .d (.int .i8 s_69.offsets.e2), .d (.int .i8 s_69.offsets.e3), .d (.sl (List.map TSync.enc s_69.syncs)), .d (.int .u8 s_69.wrong)]) ?_
  refine l_ds 25 (.one (.d (.int .i64 k_69))) ?_
  refine l_ds 27 (.one (.d (.int .i64 i_69))) ?_
  refine l_ds 28 (.one (.d (.int .i64 (w64 (i_69 + 1))))) ?_
  refine l_ds 29 (.one (.ref 11 1 0 1)) ?_
  refine l_ds 30 (.one (.d (.int .u8 x6812.clock))) ?_
  refine l_ds 31 (.one (.d (.int .u8 (Int.tmod x6812.clock 4)))) ?_
  refine l_ds 32 (.one (.d (.int .i64 (w64 (Int.tmod x6812.clock 4))))) ?_
  refine l_ds 33 (.one (.d (.int .i64 (w64 (1 + (w64 (Int.tmod x6812.clock 4))))))) ?_
  refine l_ds 34 (.agg [.d (.int .u8 x6812.parent), .d (.int .u8 x6812.clock), .d (.int .u8 x6812.kind), .d (.int .u8 x6812.service), .d (.int .u8 x6812.version), .d (.int .u8 x6812.operation), .d (.int .u8 x6812.wait), .d (.int .u8 x6812.long), .d (.int .u8 x6812.link), .d (.int .u8 x6812.tag), .d (.bool x6812.fail)]) ?_
  refine l_ds 36 (.one (.ref 11 1 0 10)) ?_
  refine l_ds 37 (.one (.d (.bool x6812.fail))) ?_
  refine l_ds 38 (.one (.d (.sl (List.map (eInt .i64) start_69)))) ?_
  refine l_ds 39 (.one (.d (.int .i64 i_69))) ?_
  obtain ⟨h15, x6817, h16, h⟩ := h
  refine l_spec (some 40) (.iad 1 (.t 38) (.t 39)) (.one (.d (.ptr [.int .i64 x6817])), []) (by kernel_rfl) (detA_some (d_iad_sl (enc := (eInt .i64)) (k := .i64) start_69 x6817 (by kernel_rfl) (by kernel_rfl) h15 h16 rfl) (by kernel_rfl)) ?_
  refine l_ds 41 (.one (.d (.int .i64 x6817))) ?_
  refine l_ds 42 (.one (.d (.sl (List.map (eInt .i64) end_4_69)))) ?_
  refine l_ds 43 (.one (.d (.int .i64 i_69))) ?_
  obtain ⟨h17, x6818, h18, h⟩ := h
  refine l_spec (some 44) (.iad 1 (.t 42) (.t 43)) (.one (.d (.ptr [.int .i64 x6818])), []) (by kernel_rfl) (detA_some (d_iad_sl (enc := (eInt .i64)) (k := .i64) end_4_69 x6818 (by kernel_rfl) (by kernel_rfl) h17 h18 rfl) (by kernel_rfl)) ?_
  refine l_ds 45 (.one (.d (.int .i64 x6818))) ?_
  refine l_det (some 12) (.one (.ref 12 1 0 0), [(12, 1, .row true 58 14 [[.d (.int .i64 0), .d (.int .i64 0), .d (.int .i64 0), .d (.int .i64 0), .d (.int .i64 0), .d (.int .i64 0), .d (.str (⟨#[]⟩ : ByteArray)), .d (.str (⟨#[]⟩ : ByteArray)), .d (.str (⟨#[]⟩ : ByteArray)), .d (.int .i64 0), .d (.int .i64 0), .d (.bool false), .nils, .nils]])]) (by kernel_rfl) ?_
  refine l_call ok41 en41 (some 26) [.agg [.d (.sl (List.map TTree.enc s_69.trees)), .d (.int .i8 s_69.offsets.e0), .d (.int .i8 s_69.offsets.e1), .d (.int .i8 s_69.offsets.e2), .d (.int .i8 s_69.offsets.e3), .d (.sl (List.map TSync.enc s_69.syncs)), .d (.int .u8 s_69.wrong)], .one (.d (.int .i64 k_69))] [false, false] [.agg (List.map RC.d [.sl (List.map TTree.enc s_69.trees), .int .i8 s_69.offsets.e0, .int .i8 s_69.offsets.e1, .int .i8 s_69.offsets.e2, .int .i8 s_69.offsets.e3, .sl (List.map TSync.enc s_69.syncs), .int .u8 s_69.wrong]), .one (.d (.int .i64 k_69))] [] (by kernel_rfl) ⟨by kernel_rfl, by kernel_rfl⟩ (by kernel_rfl) (by kernel_rfl) (by kernel_rfl) (cl41 s_69 k_69 h) ?_
  rintro hR _ _ ⟨r6819, rfl, rfl, h⟩
  refine ⟨false, (.one (.d (.int .i64 r6819)), []), (fun hz => (by cases hz)), (ret_R hR (by kernel_rfl)), ?_⟩
  refine l_call ok83 en83 (some 35) [.agg [.d (.int .u8 x6812.parent), .d (.int .u8 x6812.clock), .d (.int .u8 x6812.kind), .d (.int .u8 x6812.service), .d (.int .u8 x6812.version), .d (.int .u8 x6812.operation), .d (.int .u8 x6812.wait), .d (.int .u8 x6812.long), .d (.int .u8 x6812.link), .d (.int .u8 x6812.tag), .d (.bool x6812.fail)]] [false] [.agg (List.map RC.d [.int .u8 x6812.parent, .int .u8 x6812.clock, .int .u8 x6812.kind, .int .u8 x6812.service, .int .u8 x6812.version, .int .u8 x6812.operation, .int .u8 x6812.wait, .int .u8 x6812.long, .int .u8 x6812.link, .int .u8 x6812.tag, .bool x6812.fail])] [] (by kernel_rfl) ⟨by kernel_rfl, by kernel_rfl⟩ (by kernel_rfl) (by kernel_rfl) (by kernel_rfl) (cl83 x6812 h) ?_
  rintro hR _ _ ⟨r6820, rfl, rfl, h⟩
  refine ⟨false, (.one (.d (.int .i64 r6820)), []), (fun hz => (by cases hz)), (ret_R hR (by kernel_rfl)), ?_⟩
  refine l_ds 46 (.agg [.d (.int .i64 r6819), .d (.int .i64 (w64 (i_69 + 1))), .d (.int .i64 0), .d (.int .i64 0), .d (.int .i64 (w64 (1 + (w64 (Int.tmod x6812.clock 4))))), .d (.int .i64 r6820), .d (.str (⟨#[]⟩ : ByteArray)), .d (.str (⟨#[]⟩ : ByteArray)), .d (.str (⟨#[]⟩ : ByteArray)), .d (.int .i64 x6817), .d (.int .i64 x6818), .d (.bool x6812.fail), .nils, .nils]) ?_
  refine l_det none (.tup [], [(12, 1, .row true 58 14 [[.d (.int .i64 r6819), .d (.int .i64 (w64 (i_69 + 1))), .d (.int .i64 0), .d (.int .i64 0), .d (.int .i64 (w64 (1 + (w64 (Int.tmod x6812.clock 4))))), .d (.int .i64 r6820), .d (.str (⟨#[]⟩ : ByteArray)), .d (.str (⟨#[]⟩ : ByteArray)), .d (.str (⟨#[]⟩ : ByteArray)), .d (.int .i64 x6817), .d (.int .i64 x6818), .d (.bool x6812.fail), .nils, .nils]])]) (by kernel_rfl) ?_
  refine l_nil ?_
  refine AW.sregL [(0, none), (1, none), (2, none), (3, none), (4, none), (5, none), (6, none), (7, none)] (by kernel_rfl) ?_
  refine l_det (some 47) (.one (.view 47 1 0 4), [(47, 1, .row true 9 1 [[.d (.str (⟨#[97, 112, 105]⟩ : ByteArray))], [.d (.str (⟨#[100, 98]⟩ : ByteArray))], [.d (.str (⟨#[119, 101, 98]⟩ : ByteArray))], [.d (.str (⟨#[99, 97, 99, 104, 101]⟩ : ByteArray))]])]) (by kernel_rfl) ?_
  refine l_ds 48 (.one (.ref 11 1 0 3)) ?_
  refine l_ds 49 (.one (.d (.int .u8 x6812.service))) ?_
  refine l_ds 50 (.one (.d (.int .u8 (Int.tmod x6812.service 4)))) ?_
  obtain ⟨h23, x6822, h24, h⟩ := h
  refine l_spec (some 51) (.iad 1 (.t 47) (.t 50)) (.one (.ref 47 1 ((Int.tmod x6812.service 4).toNat) 0), []) (by kernel_rfl) (detA_none (d_iad_v (enc := eStr) (k := .u8) (E := 9) (l := true) (ys := dmm (List.map eStr [(⟨#[97, 112, 105]⟩ : ByteArray), (⟨#[100, 98]⟩ : ByteArray), (⟨#[119, 101, 98]⟩ : ByteArray), (⟨#[99, 97, 99, 104, 101]⟩ : ByteArray)])) [(⟨#[97, 112, 105]⟩ : ByteArray), (⟨#[100, 98]⟩ : ByteArray), (⟨#[119, 101, 98]⟩ : ByteArray), (⟨#[99, 97, 99, 104, 101]⟩ : ByteArray)] x6822 (by kernel_rfl) (by kernel_rfl) (by kernel_rfl) (by kernel_rfl) h23 h24)) ?_
  refine l_spec (some 52) (.ld false 1 (.t 51)) (.one (.d (.str x6822)), []) (by kernel_rfl) (detA_none (d_ld_row (enc := eStr) (o := 47) (g := 1) (i := ((Int.tmod x6812.service 4).toNat)) (off := 0) (E := 9) (sz := 1) (l := true) [(⟨#[97, 112, 105]⟩ : ByteArray), (⟨#[100, 98]⟩ : ByteArray), (⟨#[119, 101, 98]⟩ : ByteArray), (⟨#[99, 97, 99, 104, 101]⟩ : ByteArray)] x6822 (by kernel_rfl) (by kernel_rfl) (by kernel_rfl) h24 (by kernel_rfl))) ?_
  refine l_ds 53 (.one (.ref 12 1 0 6)) ?_
  refine l_det none (.tup [], [(12, 1, .row true 58 14 [[.d (.int .i64 r6819), .d (.int .i64 (w64 (i_69 + 1))), .d (.int .i64 0), .d (.int .i64 0), .d (.int .i64 (w64 (1 + (w64 (Int.tmod x6812.clock 4))))), .d (.int .i64 r6820), .d (.str x6822), .d (.str (⟨#[]⟩ : ByteArray)), .d (.str (⟨#[]⟩ : ByteArray)), .d (.int .i64 x6817), .d (.int .i64 x6818), .d (.bool x6812.fail), .nils, .nils]])]) (by kernel_rfl) ?_
  refine l_nil ?_
  refine AW.sregL [(0, none), (1, none), (2, none), (3, none), (4, none), (5, none), (6, none), (7, none)] (by kernel_rfl) ?_
  refine l_det (some 54) (.one (.view 54 1 0 3), [(54, 1, .row true 9 1 [[.d (.str (⟨#[118, 49]⟩ : ByteArray))], [.d (.str (⟨#[118, 50]⟩ : ByteArray))], [.d (.str (⟨#[]⟩ : ByteArray))]])]) (by kernel_rfl) ?_
  refine l_ds 55 (.one (.ref 11 1 0 4)) ?_
  refine l_ds 56 (.one (.d (.int .u8 x6812.version))) ?_
  refine l_ds 57 (.one (.d (.int .u8 (Int.tmod x6812.version 3)))) ?_
  obtain ⟨h27, x6824, h28, h⟩ := h
  refine l_spec (some 58) (.iad 1 (.t 54) (.t 57)) (.one (.ref 54 1 ((Int.tmod x6812.version 3).toNat) 0), []) (by kernel_rfl) (detA_none (d_iad_v (enc := eStr) (k := .u8) (E := 9) (l := true) (ys := dmm (List.map eStr [(⟨#[118, 49]⟩ : ByteArray), (⟨#[118, 50]⟩ : ByteArray), (⟨#[]⟩ : ByteArray)])) [(⟨#[118, 49]⟩ : ByteArray), (⟨#[118, 50]⟩ : ByteArray), (⟨#[]⟩ : ByteArray)] x6824 (by kernel_rfl) (by kernel_rfl) (by kernel_rfl) (by kernel_rfl) h27 h28)) ?_
  refine l_spec (some 59) (.ld false 1 (.t 58)) (.one (.d (.str x6824)), []) (by kernel_rfl) (detA_none (d_ld_row (enc := eStr) (o := 54) (g := 1) (i := ((Int.tmod x6812.version 3).toNat)) (off := 0) (E := 9) (sz := 1) (l := true) [(⟨#[118, 49]⟩ : ByteArray), (⟨#[118, 50]⟩ : ByteArray), (⟨#[]⟩ : ByteArray)] x6824 (by kernel_rfl) (by kernel_rfl) (by kernel_rfl) h28 (by kernel_rfl))) ?_
  refine l_ds 60 (.one (.ref 12 1 0 7)) ?_
  refine l_det none (.tup [], [(12, 1, .row true 58 14 [[.d (.int .i64 r6819), .d (.int .i64 (w64 (i_69 + 1))), .d (.int .i64 0), .d (.int .i64 0), .d (.int .i64 (w64 (1 + (w64 (Int.tmod x6812.clock 4))))), .d (.int .i64 r6820), .d (.str x6822), .d (.str x6824), .d (.str (⟨#[]⟩ : ByteArray)), .d (.int .i64 x6817), .d (.int .i64 x6818), .d (.bool x6812.fail), .nils, .nils]])]) (by kernel_rfl) ?_
  refine l_nil ?_
  refine AW.sregL [(0, none), (1, none), (2, none), (3, none), (4, none), (5, none), (6, none), (7, none)] (by kernel_rfl) ?_
  refine l_det (some 61) (.one (.view 61 1 0 3), [(61, 1, .row true 9 1 [[.d (.str (⟨#[103, 101, 116]⟩ : ByteArray))], [.d (.str (⟨#[112, 117, 116]⟩ : ByteArray))], [.d (.str (⟨#[108, 105, 115, 116]⟩ : ByteArray))]])]) (by kernel_rfl) ?_
  refine l_ds 62 (.one (.ref 11 1 0 5)) ?_
  refine l_ds 63 (.one (.d (.int .u8 x6812.operation))) ?_
  refine l_ds 64 (.one (.d (.int .u8 (Int.tmod x6812.operation 3)))) ?_
  obtain ⟨h31, x6826, h32, h⟩ := h
  refine l_spec (some 65) (.iad 1 (.t 61) (.t 64)) (.one (.ref 61 1 ((Int.tmod x6812.operation 3).toNat) 0), []) (by kernel_rfl) (detA_none (d_iad_v (enc := eStr) (k := .u8) (E := 9) (l := true) (ys := dmm (List.map eStr [(⟨#[103, 101, 116]⟩ : ByteArray), (⟨#[112, 117, 116]⟩ : ByteArray), (⟨#[108, 105, 115, 116]⟩ : ByteArray)])) [(⟨#[103, 101, 116]⟩ : ByteArray), (⟨#[112, 117, 116]⟩ : ByteArray), (⟨#[108, 105, 115, 116]⟩ : ByteArray)] x6826 (by kernel_rfl) (by kernel_rfl) (by kernel_rfl) (by kernel_rfl) h31 h32)) ?_
  refine l_spec (some 66) (.ld false 1 (.t 65)) (.one (.d (.str x6826)), []) (by kernel_rfl) (detA_none (d_ld_row (enc := eStr) (o := 61) (g := 1) (i := ((Int.tmod x6812.operation 3).toNat)) (off := 0) (E := 9) (sz := 1) (l := true) [(⟨#[103, 101, 116]⟩ : ByteArray), (⟨#[112, 117, 116]⟩ : ByteArray), (⟨#[108, 105, 115, 116]⟩ : ByteArray)] x6826 (by kernel_rfl) (by kernel_rfl) (by kernel_rfl) h32 (by kernel_rfl))) ?_
  refine l_ds 67 (.one (.ref 12 1 0 8)) ?_
  refine l_det none (.tup [], [(12, 1, .row true 58 14 [[.d (.int .i64 r6819), .d (.int .i64 (w64 (i_69 + 1))), .d (.int .i64 0), .d (.int .i64 0), .d (.int .i64 (w64 (1 + (w64 (Int.tmod x6812.clock 4))))), .d (.int .i64 r6820), .d (.str x6822), .d (.str x6824), .d (.str x6826), .d (.int .i64 x6817), .d (.int .i64 x6818), .d (.bool x6812.fail), .nils, .nils]])]) (by kernel_rfl) ?_
  refine l_nil ?_
  refine AW.seqL (S := Int) (fun s => (fun (v6827 : Int) => [(2, .one (.d (.int .i64 i_69))), (3, .one (.d (.sl (List.map (eInt .i64) start_69)))), (10, .one (.ref 200001 0 0 0)), (11, .one (.ref 200002 0 0 0)), (12, .one (.ref 200003 0 0 0))]) s) (fun s => (fun (v6827 : Int) => [(200001, .expl true 58 14 [[.d (.int .i64 0), .d (.int .i64 0), .d (.int .i64 0), .d (.int .i64 0), .d (.int .i64 0), .d (.int .i64 0), .d (.str (⟨#[]⟩ : ByteArray)), .d (.str (⟨#[]⟩ : ByteArray)), .d (.str (⟨#[]⟩ : ByteArray)), .d (.int .i64 0), .d (.int .i64 0), .d (.bool false), .nils, .nils]]), (200002, .expl true 153 11 [[.d (.int .u8 x6812.parent), .d (.int .u8 x6812.clock), .d (.int .u8 x6812.kind), .d (.int .u8 x6812.service), .d (.int .u8 x6812.version), .d (.int .u8 x6812.operation), .d (.int .u8 x6812.wait), .d (.int .u8 x6812.long), .d (.int .u8 x6812.link), .d (.int .u8 x6812.tag), .d (.bool x6812.fail)]]), (200003, .expl true 58 14 [[.d (.int .i64 r6819), .d (.int .i64 (w64 (i_69 + 1))), .d (.int .i64 v6827), .d (.int .i64 0), .d (.int .i64 (w64 (1 + (w64 (Int.tmod x6812.clock 4))))), .d (.int .i64 r6820), .d (.str x6822), .d (.str x6824), .d (.str x6826), .d (.int .i64 x6817), .d (.int .i64 x6818), .d (.bool x6812.fail), .nils, .nils]])]) s) (fun s : Int => J69_1 x6812 i_69 start_69 K r6819 r6820 x6822 x6824 x6826 x6817 x6818 s) ?_ ?_
  · refine AW.sregL [(0, none), (1, none), (2, none), (3, none), (4, none), (5, none), (6, none)] (by kernel_rfl) ?_
    refine l_ds 68 (.one (.ref 11 1 0 0)) ?_
    refine l_ds 69 (.one (.d (.int .u8 x6812.parent))) ?_
    refine l_ds 70 (.one (.d (.int .i64 (w64 x6812.parent)))) ?_
    refine l_ds 71 (.one (.d (.int .i64 i_69))) ?_
    refine l_ds 72 (.one (.d (.int .i64 (w64 (i_69 + 1))))) ?_
    obtain ⟨h58, h⟩ := h
    refine l_spec (some 73) (.bin .rem (.t 70) (.t 72)) (.one (.d (.int .i64 (Int.tmod (w64 x6812.parent) (w64 (i_69 + 1))))), []) (by kernel_rfl) (detA_none (d_rem (w64 x6812.parent) (w64 (i_69 + 1)) (by kernel_rfl) (by kernel_rfl) h58)) ?_
    refine l_ds 13 (.one (.d (.int .i64 (Int.tmod (w64 x6812.parent) (w64 (i_69 + 1)))))) ?_
    refine l_nil ?_
    refine AW.sregL [(0, none), (1, none), (2, none)] (by kernel_rfl) ?_
    refine l_ds 74 (.one (.d (.int .i64 (Int.tmod (w64 x6812.parent) (w64 (i_69 + 1)))))) ?_
    refine l_ds 75 (.one (.d (.int .i64 i_69))) ?_
    refine l_ds 76 (.one (.d (.bool (decide ((Int.tmod (w64 x6812.parent) (w64 (i_69 + 1))) < i_69))))) ?_
    refine l_nil ?_
    refine AW.cond' (by kernel_rfl) h (fun h => ?_) (fun h => ?_)
    · refine AW.regL [(0, none), (1, none), (2, none), (3, none)] (by kernel_rfl) ?_
      refine l_ds 77 (.one (.d (.int .i64 (Int.tmod (w64 x6812.parent) (w64 (i_69 + 1)))))) ?_
      refine l_ds 78 (.one (.d (.int .i64 (w64 ((Int.tmod (w64 x6812.parent) (w64 (i_69 + 1))) + 1))))) ?_
      refine l_ds 79 (.one (.ref 12 1 0 2)) ?_
      refine l_det none (.tup [], [(12, 1, .row true 58 14 [[.d (.int .i64 r6819), .d (.int .i64 (w64 (i_69 + 1))), .d (.int .i64 (w64 ((Int.tmod (w64 x6812.parent) (w64 (i_69 + 1))) + 1))), .d (.int .i64 0), .d (.int .i64 (w64 (1 + (w64 (Int.tmod x6812.clock 4))))), .d (.int .i64 r6820), .d (.str x6822), .d (.str x6824), .d (.str x6826), .d (.int .i64 x6817), .d (.int .i64 x6818), .d (.bool x6812.fail), .nils, .nils]])]) (by kernel_rfl) ?_
      refine l_nil ?_
      refine q_fall ?_
      exact Lab.m (w64 ((Int.tmod (w64 x6812.parent) (w64 (i_69 + 1))) + 1)) [(200001, some 10), (200002, some 11), (200003, some 12)] h
    · refine AW.sregL [(0, none), (1, none)] (by kernel_rfl) ?_
      refine l_ds 80 (.one (.d (.int .i64 i_69))) ?_
      refine l_ds 81 (.one (.d (.bool (decide (i_69 > 0))))) ?_
      refine l_nil ?_
      refine AW.cond' (by kernel_rfl) h (fun h => ?_) (fun h => ?_)
      · refine AW.regL [(0, none), (1, none)] (by kernel_rfl) ?_
        refine l_ds 82 (.one (.ref 12 1 0 2)) ?_
        refine l_det none (.tup [], [(12, 1, .row true 58 14 [[.d (.int .i64 r6819), .d (.int .i64 (w64 (i_69 + 1))), .d (.int .i64 100), .d (.int .i64 0), .d (.int .i64 (w64 (1 + (w64 (Int.tmod x6812.clock 4))))), .d (.int .i64 r6820), .d (.str x6822), .d (.str x6824), .d (.str x6826), .d (.int .i64 x6817), .d (.int .i64 x6818), .d (.bool x6812.fail), .nils, .nils]])]) (by kernel_rfl) ?_
        refine l_nil ?_
        refine q_fall ?_
        exact Lab.m 100 [(200001, some 10), (200002, some 11), (200003, some 12)] h
      · refine AW.skip ?_
        refine q_fall ?_
        exact Lab.m 0 [(200001, some 10), (200002, some 11), (200003, some 12)] h
  · rintro v6827 h
    have h : J69_1 x6812 i_69 start_69 K r6819 r6820 x6822 x6824 x6826 x6817 x6818 v6827 := h
    unfold J69_1 at h
    refine AW.seqL (S := (List TRef)) (fun s => (fun (v6836 : List TRef) => [(10, .one (.ref 200001 0 0 0)), (11, .one (.ref 200002 0 0 0)), (12, .one (.ref 200003 0 0 0))]) s) (fun s => (fun (v6836 : List TRef) => [(200001, .expl true 58 14 [[.d (.int .i64 0), .d (.int .i64 0), .d (.int .i64 0), .d (.int .i64 0), .d (.int .i64 0), .d (.int .i64 0), .d (.str (⟨#[]⟩ : ByteArray)), .d (.str (⟨#[]⟩ : ByteArray)), .d (.str (⟨#[]⟩ : ByteArray)), .d (.int .i64 0), .d (.int .i64 0), .d (.bool false), .nils, .nils]]), (200002, .expl true 153 11 [[.d (.int .u8 x6812.parent), .d (.int .u8 x6812.clock), .d (.int .u8 x6812.kind), .d (.int .u8 x6812.service), .d (.int .u8 x6812.version), .d (.int .u8 x6812.operation), .d (.int .u8 x6812.wait), .d (.int .u8 x6812.long), .d (.int .u8 x6812.link), .d (.int .u8 x6812.tag), .d (.bool x6812.fail)]]), (200003, .expl true 58 14 [[.d (.int .i64 r6819), .d (.int .i64 (w64 (i_69 + 1))), .d (.int .i64 v6827), .d (.int .i64 0), .d (.int .i64 (w64 (1 + (w64 (Int.tmod x6812.clock 4))))), .d (.int .i64 r6820), .d (.str x6822), .d (.str x6824), .d (.str x6826), .d (.int .i64 x6817), .d (.int .i64 x6818), .d (.bool x6812.fail), .nils, .view 200004 0 0 ((List.map TRef.enc v6836).length)]]), (200004, .pure true 146 2 (List.map TRef.enc v6836))]) s) (fun s : (List TRef) => J69_2 x6812 K r6819 i_69 v6827 r6820 x6822 x6824 x6826 x6817 x6818 s) ?_ ?_
    · refine AW.sregL [(0, none), (1, none), (2, none), (3, none), (4, none)] (by kernel_rfl) ?_
      refine l_ds 83 (.one (.ref 200002 0 0 8)) ?_
      refine l_ds 84 (.one (.d (.int .u8 x6812.link))) ?_
      refine l_ds 85 (.one (.d (.int .u8 (Int.tmod x6812.link 16)))) ?_
      refine l_ds 86 (.one (.d (.int .i64 (w64 (Int.tmod x6812.link 16))))) ?_
      refine l_ds 14 (.one (.d (.int .i64 (w64 (Int.tmod x6812.link 16))))) ?_
      refine l_nil ?_
      refine AW.seqL (S := Bool) (fun s => (fun (v6843 : Bool) => [(10, .one (.ref 200001 0 0 0)), (11, .one (.ref 200002 0 0 0)), (12, .one (.ref 200003 0 0 0)), (14, .one (.d (.int .i64 (w64 (Int.tmod x6812.link 16))))), (100, .one (.d (.bool v6843)))]) s) (fun s => (fun (v6843 : Bool) => [(200001, .expl true 58 14 [[.d (.int .i64 0), .d (.int .i64 0), .d (.int .i64 0), .d (.int .i64 0), .d (.int .i64 0), .d (.int .i64 0), .d (.str (⟨#[]⟩ : ByteArray)), .d (.str (⟨#[]⟩ : ByteArray)), .d (.str (⟨#[]⟩ : ByteArray)), .d (.int .i64 0), .d (.int .i64 0), .d (.bool false), .nils, .nils]]), (200002, .expl true 153 11 [[.d (.int .u8 x6812.parent), .d (.int .u8 x6812.clock), .d (.int .u8 x6812.kind), .d (.int .u8 x6812.service), .d (.int .u8 x6812.version), .d (.int .u8 x6812.operation), .d (.int .u8 x6812.wait), .d (.int .u8 x6812.long), .d (.int .u8 x6812.link), .d (.int .u8 x6812.tag), .d (.bool x6812.fail)]]), (200003, .expl true 58 14 [[.d (.int .i64 r6819), .d (.int .i64 (w64 (i_69 + 1))), .d (.int .i64 v6827), .d (.int .i64 0), .d (.int .i64 (w64 (1 + (w64 (Int.tmod x6812.clock 4))))), .d (.int .i64 r6820), .d (.str x6822), .d (.str x6824), .d (.str x6826), .d (.int .i64 x6817), .d (.int .i64 x6818), .d (.bool x6812.fail), .nils, .nils]])]) s) (fun s : Bool => J69_3 x6812 K r6819 i_69 v6827 r6820 x6822 x6824 x6826 x6817 x6818 s) ?_ ?_
      · refine AW.regdL follows_mixed [[], [], [0, 1], [0, 1, 2], [0, 1, 2, 3], [0, 1, 2, 3], [0, 1, 2, 3, 4, 5], [0, 1, 2, 3, 4, 5, 6], [0, 1, 2, 3], [0, 1, 2, 3], [0, 1, 2, 3, 8, 9], [0, 1, 2, 3, 8, 9, 10], [0, 1, 2, 3, 4, 5, 6, 7, 8, 9, 10, 11], [0, 1, 2, 3, 4, 5, 6, 7, 8, 9, 10, 11, 12]] [(0, none), (1, none), (2, none), (3, none), (4, none), (5, none), (6, none), (7, none), (8, none), (9, none), (10, none), (11, none), (12, none), (13, none)] (by kernel_rfl) ?_
        refine l_ds 87 (.one (.d (.int .i64 (w64 (Int.tmod x6812.link 16))))) ?_
        refine l_ds 88 (.one (.d (.int .i64 i_69))) ?_
        refine l_ds 89 (.one (.d (.bool (decide ((w64 (Int.tmod x6812.link 16)) < i_69))))) ?_
        refine l_ds 90 (.one (.d (.bool (decide ((w64 (Int.tmod x6812.link 16)) < i_69))))) ?_
        refine l_split (s := 90) (by kernel_rfl) h (fun h => ?_) (fun h => ?_)
        · refine l_ds 91 (.one (.d (.sl (List.map (eInt .i64) start_69)))) ?_
          refine l_ds 92 (.one (.d (.int .i64 (w64 (Int.tmod x6812.link 16))))) ?_
          obtain ⟨h55, x6844, h56, h⟩ := h
          refine l_spec (some 93) (.iad 1 (.t 91) (.t 92)) (.one (.d (.ptr [.int .i64 x6844])), []) (by kernel_rfl) (detA_none (d_iad_sl (enc := (eInt .i64)) (k := .i64) start_69 x6844 (by kernel_rfl) (by kernel_rfl) h55 h56 rfl)) ?_
          refine l_ds 94 (.one (.d (.int .i64 x6844))) ?_
          refine l_ds 95 (.one (.d (.sl (List.map (eInt .i64) start_69)))) ?_
          refine l_ds 96 (.one (.d (.int .i64 i_69))) ?_
          refine l_spec (some 97) (.iad 1 (.t 95) (.t 96)) (.one (.d (.ptr [.int .i64 x6817])), []) (by kernel_rfl) (detA_none (d_iad_sl (enc := (eInt .i64)) (k := .i64) start_69 x6817 (by kernel_rfl) (by kernel_rfl) h15 h16 rfl)) ?_
          refine l_ds 98 (.one (.d (.int .i64 x6817))) ?_
          refine l_ds 99 (.one (.d (.bool (decide (x6844 ≤ x6817))))) ?_
          refine l_ds 100 (.one (.d (.bool (decide (x6844 ≤ x6817))))) ?_
          refine l_nil ?_
          refine q_fall ?_
          exact Lab.m (decide (x6844 ≤ x6817)) [(200001, some 200001), (200002, some 200002), (200003, some 200003)] h
        · refine l_ds 91 (.tup []) ?_
          refine l_ds 92 (.tup []) ?_
          refine l_ds 93 (.tup []) ?_
          refine l_ds 94 (.tup []) ?_
          refine l_ds 95 (.tup []) ?_
          refine l_ds 96 (.tup []) ?_
          refine l_ds 97 (.tup []) ?_
          refine l_ds 98 (.tup []) ?_
          refine l_ds 99 (.tup []) ?_
          refine l_ds 100 (.one (.d (.bool false))) ?_
          refine l_nil ?_
          refine q_fall ?_
          exact Lab.m false [(200001, some 200001), (200002, some 200002), (200003, some 200003)] h
      · rintro v6843 h
        have h : J69_3 x6812 K r6819 i_69 v6827 r6820 x6822 x6824 x6826 x6817 x6818 v6843 := h
        unfold J69_3 at h
        refine AW.cond' (by kernel_rfl) h (fun h => ?_) (fun h => ?_)
        · refine AW.regL [(0, none), (1, none), (2, none), (3, none), (4, none), (5, none), (6, none), (7, none)] (by kernel_rfl) ?_
          refine l_ds 101 (.one (.ref 200003 0 0 0)) ?_
          refine l_ds 102 (.one (.d (.int .i64 r6819))) ?_
          refine l_ds 103 (.one (.d (.int .i64 (w64 (Int.tmod x6812.link 16))))) ?_
          refine l_ds 104 (.one (.d (.int .i64 (w64 ((w64 (Int.tmod x6812.link 16)) + 1))))) ?_
          refine l_ds 105 (.agg [.d (.int .i64 r6819), .d (.int .i64 (w64 ((w64 (Int.tmod x6812.link 16)) + 1)))]) ?_
          refine l_det (some 106) (.one (.view 106 1 0 1), [(106, 1, .row true 146 2 [[.d (.int .i64 r6819), .d (.int .i64 (w64 ((w64 (Int.tmod x6812.link 16)) + 1)))]])]) (by kernel_rfl) ?_
          refine l_ds 107 (.one (.ref 200003 0 0 13)) ?_
          refine l_det none (.tup [], [(200003, 0, .row true 58 14 [[.d (.int .i64 r6819), .d (.int .i64 (w64 (i_69 + 1))), .d (.int .i64 v6827), .d (.int .i64 0), .d (.int .i64 (w64 (1 + (w64 (Int.tmod x6812.clock 4))))), .d (.int .i64 r6820), .d (.str x6822), .d (.str x6824), .d (.str x6826), .d (.int .i64 x6817), .d (.int .i64 x6818), .d (.bool x6812.fail), .nils, .view 106 1 0 1]])]) (by kernel_rfl) ?_
          refine l_nil ?_
          refine q_fall ?_
          exact Lab.m [(TRef.mk r6819 (w64 ((w64 (Int.tmod x6812.link 16)) + 1)))] [(200001, some 200001), (200002, some 200002), (200003, some 200003), (200004, some 106)] h
        · refine AW.skip ?_
          refine q_fall ?_
          exact Lab.m [] [(200001, some 200001), (200002, some 200002), (200003, some 200003), (200004, none)] h
    · rintro v6836 h
      have h : J69_2 x6812 K r6819 i_69 v6827 r6820 x6822 x6824 x6826 x6817 x6818 v6836 := h
      unfold J69_2 at h
      refine AW.sregL [(0, none), (1, none), (2, none), (3, none)] (by kernel_rfl) ?_
      refine l_ds 108 (.agg [.d (.int .u8 x6812.parent), .d (.int .u8 x6812.clock), .d (.int .u8 x6812.kind), .d (.int .u8 x6812.service), .d (.int .u8 x6812.version), .d (.int .u8 x6812.operation), .d (.int .u8 x6812.wait), .d (.int .u8 x6812.long), .d (.int .u8 x6812.link), .d (.int .u8 x6812.tag), .d (.bool x6812.fail)]) ?_
      refine l_call ok84 en84 (some 109) [.agg [.d (.int .u8 x6812.parent), .d (.int .u8 x6812.clock), .d (.int .u8 x6812.kind), .d (.int .u8 x6812.service), .d (.int .u8 x6812.version), .d (.int .u8 x6812.operation), .d (.int .u8 x6812.wait), .d (.int .u8 x6812.long), .d (.int .u8 x6812.link), .d (.int .u8 x6812.tag), .d (.bool x6812.fail)]] [false] [.agg (List.map RC.d [.int .u8 x6812.parent, .int .u8 x6812.clock, .int .u8 x6812.kind, .int .u8 x6812.service, .int .u8 x6812.version, .int .u8 x6812.operation, .int .u8 x6812.wait, .int .u8 x6812.long, .int .u8 x6812.link, .int .u8 x6812.tag, .bool x6812.fail])] [] (by kernel_rfl) ⟨by kernel_rfl, by kernel_rfl⟩ (by kernel_rfl) (by kernel_rfl) (by kernel_rfl) (cl84 x6812 h) ?_
      rintro hR _ _ ⟨r6840, rfl, rfl, h⟩
      refine ⟨false, (.one (.d (.sl (List.map TAttr.enc r6840))), []), (fun hz => (by cases hz)), (ret_R hR (by kernel_rfl)), ?_⟩
      refine l_ds 110 (.one (.ref 200003 0 0 12)) ?_
      refine l_det none (.tup [], [(200003, 0, .row true 58 14 [[.d (.int .i64 r6819), .d (.int .i64 (w64 (i_69 + 1))), .d (.int .i64 v6827), .d (.int .i64 0), .d (.int .i64 (w64 (1 + (w64 (Int.tmod x6812.clock 4))))), .d (.int .i64 r6820), .d (.str x6822), .d (.str x6824), .d (.str x6826), .d (.int .i64 x6817), .d (.int .i64 x6818), .d (.bool x6812.fail), .d (.sl (List.map TAttr.enc r6840)), .view 200004 0 0 ((List.map TRef.enc v6836).length)]])]) (by kernel_rfl) ?_
      refine l_nil ?_
      refine AW.sregL [(0, none), (1, none)] (by kernel_rfl) ?_
      refine l_ds 111 (.agg [.d (.int .i64 r6819), .d (.int .i64 (w64 (i_69 + 1))), .d (.int .i64 v6827), .d (.int .i64 0), .d (.int .i64 (w64 (1 + (w64 (Int.tmod x6812.clock 4))))), .d (.int .i64 r6820), .d (.str x6822), .d (.str x6824), .d (.str x6826), .d (.int .i64 x6817), .d (.int .i64 x6818), .d (.bool x6812.fail), .d (.sl (List.map TAttr.enc r6840)), .view 200004 0 0 ((List.map TRef.enc v6836).length)]) ?_
      refine l_det none (.tup [], [(200001, 0, .row true 58 14 [[.d (.int .i64 r6819), .d (.int .i64 (w64 (i_69 + 1))), .d (.int .i64 v6827), .d (.int .i64 0), .d (.int .i64 (w64 (1 + (w64 (Int.tmod x6812.clock 4))))), .d (.int .i64 r6820), .d (.str x6822), .d (.str x6824), .d (.str x6826), .d (.int .i64 x6817), .d (.int .i64 x6818), .d (.bool x6812.fail), .d (.sl (List.map TAttr.enc r6840)), .view 200004 0 0 ((List.map TRef.enc v6836).length)]])]) (by kernel_rfl) ?_
      refine l_nil ?_
      refine AW.ret ?_
      exact q_end [.agg [.d (.int .i64 r6819), .d (.int .i64 (w64 (i_69 + 1))), .d (.int .i64 v6827), .d (.int .i64 0), .d (.int .i64 (w64 (1 + (w64 (Int.tmod x6812.clock 4))))), .d (.int .i64 r6820), .d (.str x6822), .d (.str x6824), .d (.str x6826), .d (.int .i64 x6817), .d (.int .i64 x6818), .d (.bool x6812.fail), .d (.sl (List.map TAttr.enc r6840)), .view 200004 0 0 ((List.map TRef.enc v6836).length)]] [false] [.agg (List.map RC.d [.int .i64 r6819, .int .i64 (w64 (i_69 + 1)), .int .i64 v6827, .int .i64 0, .int .i64 (w64 (1 + (w64 (Int.tmod x6812.clock 4)))), .int .i64 r6820, .str x6822, .str x6824, .str x6826, .int .i64 x6817, .int .i64 x6818, .bool x6812.fail, .sl (List.map TAttr.enc r6840), .sl (List.map TRef.enc v6836)])] [] [200004] (by kernel_rfl) (ps_plain (pv_agg (pc_cons pf_d (pc_cons pf_d (pc_cons pf_d (pc_cons pf_d (pc_cons pf_d (pc_cons pf_d (pc_cons pf_d (pc_cons pf_d (pc_cons pf_d (pc_cons pf_d (pc_cons pf_d (pc_cons pf_d (pc_cons pf_d (pc_cons (pf_view (E := 146) (sz := 2) (l := true) (List.map TRef.enc v6836) (by kernel_rfl) (by kernel_rfl) rfl) pc_nil))))))))))))))) ps_nil) (by kernel_rfl) (by kernel_rfl) (by kernel_rfl) (by kernel_rfl) (Eq.mp (by kernel_rfl) (hK (TSpan.mk r6819 (w64 (i_69 + 1)) v6827 0 (w64 (1 + (w64 (Int.tmod x6812.clock 4)))) r6820 x6822 x6824 x6826 x6817 x6818 x6812.fail r6840 v6836) h)) (.inr rfl)
def r70_0 : List AR := [⟨some 2, .box 27 true 7 (.t 0), [], none⟩,
  ⟨some 4, .mov (.c (.int .i64 0)), [], none⟩]
def r70_1 : List AR := [⟨some 5, .mov (.t 1), [], none⟩,
  ⟨some 6, .cvi .u64 (.t 5), [0], none⟩,
  ⟨some 7, .bin .add (.t 6) (.c (.int .u64 3)), [1], none⟩,
  ⟨some 8, .bin .rem (.t 7) (.c (.int .u64 4)), [2], none⟩,
  ⟨some 9, .fad (.t 2) 1, [], none⟩,
  ⟨some 10, .iaa 4 1 (.t 9) (.t 8), [4, 3], none⟩,
  ⟨some 11, .ld false 1 (.t 10), [5], none⟩,
  ⟨some 12, .cvi .i64 (.t 11), [6], none⟩,
  ⟨some 13, .bin .rem (.t 12) (.c (.int .i64 21)), [7], none⟩,
  ⟨some 4, .mov (.t 13), [8, 0, 1, 2, 3, 4, 5, 6, 7, 8], none⟩]
def c70 : ACode := .seq (.reg r70_0 false) (.seq (.reg r70_1 false) (.ret))
theorem body70 : Try.f70.body.map (comp Try.prog 14) = some c70 := by kernel_rfl
theorem res70 : allSome (Try.f70.results.toList.map (compRes Try.prog)) = some [.s 4] := by kernel_rfl
theorem cok70 {S : FSpec} (h : ∀ args K, S args K → args.all argOk = true ∧ args.length ≤ 14 ∧ AW Try.prog 14 (some ownP) c70 (initS args) (retPost [.s 4] args K)) : COK Try.prog 70 S := of_body Try.func70 Try.ntmps70 body70 res70 h

/-- sleuth/sleuthlaw13.Offset -/
def W70 (s_70 : TStory) (clock_70 : Int) (K : Int → Prop) : Prop :=
  Idx ([s_70.offsets.e0, s_70.offsets.e1, s_70.offsets.e2, s_70.offsets.e3] : List Int) (Int.tmod (IntKind.wrap .u64 ((IntKind.wrap .u64 clock_70) + 3)) 4) fun x6848 => K (Int.tmod (w64 x6848) 21)

def S70 : FSpec := fun args K => ∃ (s_70 : TStory), ∃ (clock_70 : Int), ∃ (Kr : Int → Prop), args = [.agg (List.map RC.d (TStory.enc s_70)), .one (.d (.int .i64 clock_70))] ∧ W70 s_70 clock_70 Kr ∧ ∀ r, Kr r → K (.one (.d (.int .i64 r))) []

theorem en70 : enters Try.prog 70 = true := by unfold enters; rw [Try.func70]; rfl
theorem cl70 (s_70 : TStory) (clock_70 : Int) {Kr : Int → Prop} (h : W70 s_70 clock_70 Kr) : S70 [.agg (List.map RC.d (TStory.enc s_70)), .one (.d (.int .i64 clock_70))] (fun rv rows => ∃ r, rv = (.one (.d (.int .i64 r))) ∧ rows = [] ∧ Kr r) := ⟨s_70, clock_70, Kr, rfl, h, fun r hr => ⟨r, rfl, rfl, hr⟩⟩

theorem ok70 : COK Try.prog 70 S70 := by
  refine cok70 fun args K0 hS => ?_
  obtain ⟨s_70, clock_70, K, rfl, h, hK⟩ := hS
  refine ⟨by kernel_rfl, by simp, ?_⟩
  unfold W70 at h
  refine AW.sregL [(0, none), (1, none)] (by kernel_rfl) ?_
  refine l_det (some 2) (.one (.ref 2 1 0 0), [(2, 1, .row true 27 7 [[.d (.sl (List.map TTree.enc s_70.trees)), .d (.int .i8 s_70.offsets.e0), .d (.int .i8 s_70.offsets.e1), .d (.int .i8 s_70.offsets.e2), .d (.int .i8 s_70.offsets.e3), .d (.sl (List.map TSync.enc s_70.syncs)), .d (.int .u8 s_70.wrong)]])]) (by kernel_rfl) ?_
  refine l_ds 4 (.one (.d (.int .i64 0))) ?_
  refine l_nil ?_
  refine AW.sregL [(0, none), (1, none), (2, none), (3, none), (4, none), (5, none), (6, none), (7, none), (8, none), (9, none)] (by kernel_rfl) ?_
  refine l_ds 5 (.one (.d (.int .i64 clock_70))) ?_
  refine l_ds 6 (.one (.d (.int .u64 (IntKind.wrap .u64 clock_70)))) ?_
  refine l_ds 7 (.one (.d (.int .u64 (IntKind.wrap .u64 ((IntKind.wrap .u64 clock_70) + 3))))) ?_
  refine l_ds 8 (.one (.d (.int .u64 (Int.tmod (IntKind.wrap .u64 ((IntKind.wrap .u64 clock_70) + 3)) 4)))) ?_
  refine l_ds 9 (.one (.ref 2 1 0 1)) ?_
  obtain ⟨h3, x6848, h4, h⟩ := h
  refine l_spec (some 10) (.iaa 4 1 (.t 9) (.t 8)) (.one (.ref 2 1 0 (1 + (Int.tmod (IntKind.wrap .u64 ((IntKind.wrap .u64 clock_70) + 3)) 4).toNat * 1)), []) (by kernel_rfl) (detA_none (d_iaa_ref (k := .u64) [s_70.offsets.e0, s_70.offsets.e1, s_70.offsets.e2, s_70.offsets.e3] (by kernel_rfl) (by kernel_rfl) h3 h4 (by kernel_rfl))) ?_
  refine l_spec (some 11) (.ld false 1 (.t 10)) (.one (.d (.int .i8 x6848)), []) (by kernel_rfl) (detA_none (d_ld_arr (o := 2) (g := 1) (i := 0) (off := 1) (kk := (Int.tmod (IntKind.wrap .u64 ((IntKind.wrap .u64 clock_70) + 3)) 4).toNat) (E := 27) (sz := 7) (l := true) (rows := [[.d (.sl (List.map TTree.enc s_70.trees)), .d (.int .i8 s_70.offsets.e0), .d (.int .i8 s_70.offsets.e1), .d (.int .i8 s_70.offsets.e2), .d (.int .i8 s_70.offsets.e3), .d (.sl (List.map TSync.enc s_70.syncs)), .d (.int .u8 s_70.wrong)]]) (cs := [.d (.sl (List.map TTree.enc s_70.trees)), .d (.int .i8 s_70.offsets.e0), .d (.int .i8 s_70.offsets.e1), .d (.int .i8 s_70.offsets.e2), .d (.int .i8 s_70.offsets.e3), .d (.sl (List.map TSync.enc s_70.syncs)), .d (.int .u8 s_70.wrong)]) (rest := [.d (.sl (List.map TSync.enc s_70.syncs)), .d (.int .u8 s_70.wrong)]) [s_70.offsets.e0, s_70.offsets.e1, s_70.offsets.e2, s_70.offsets.e3] x6848 (by kernel_rfl) (by kernel_rfl) (by kernel_rfl) (by kernel_rfl) (by kernel_rfl) h4)) ?_
  refine l_ds 12 (.one (.d (.int .i64 (w64 x6848)))) ?_
  refine l_ds 13 (.one (.d (.int .i64 (Int.tmod (w64 x6848) 21)))) ?_
  refine l_ds 4 (.one (.d (.int .i64 (Int.tmod (w64 x6848) 21)))) ?_
  refine l_nil ?_
  refine AW.ret ?_
  exact q_end [.one (.d (.int .i64 (Int.tmod (w64 x6848) 21)))] [false] [.one (.d (.int .i64 (Int.tmod (w64 x6848) 21)))] [] [] (by kernel_rfl) ⟨by kernel_rfl, by kernel_rfl⟩ (by kernel_rfl) (by kernel_rfl) (by kernel_rfl) (by kernel_rfl) (Eq.mp (by kernel_rfl) (hK (Int.tmod (w64 x6848) 21) h)) (.inr rfl)
def r42_0 : List AR := [⟨some 3, .box 27 true 7 (.t 0), [], none⟩,
  ⟨some 6, .mov (.c .nils), [], none⟩]
def r42_1 : List AR := [⟨some 7, .mov (.c .nils), [], none⟩]
def r42_2 : List AR := [⟨some 14, .fad (.t 3) 0, [], none⟩,
  ⟨some 15, .ld false 1 (.t 14), [0], none⟩,
  ⟨some 16, .mov (.t 1), [], none⟩,
  ⟨some 17, .iad 3 (.t 15) (.t 16), [1, 2], none⟩,
  ⟨some 18, .ld true 3 (.t 17), [3], none⟩,
  ⟨some 19, .call 68 [.t 18], [4], none⟩,
  ⟨some 13, .mov (.t 19), [5], none⟩,
  ⟨some 20, .ext (.t 13) 0, [6], none⟩,
  ⟨some 21, .ext (.t 13) 1, [6], none⟩,
  ⟨some 8, .mov (.t 20), [7, 5, 0, 1, 2, 3, 4, 5, 6, 7], none⟩,
  ⟨some 9, .mov (.t 21), [8, 9, 0, 1, 2, 3, 4, 5, 6, 7, 8, 9], none⟩]
def r42_3 : List AR := [⟨some 10, .mov (.c (.int .i64 0)), [], none⟩]
def r42_4 : List AR := [⟨some 22, .mov (.t 10), [], none⟩,
  ⟨some 23, .fad (.t 3) 0, [], none⟩,
  ⟨some 24, .ld false 1 (.t 23), [1], none⟩,
  ⟨some 25, .mov (.t 1), [], none⟩,
  ⟨some 26, .iad 3 (.t 24) (.t 25), [2, 3], none⟩,
  ⟨some 27, .fad (.t 26) 2, [4], none⟩,
  ⟨some 28, .ld false 1 (.t 27), [5], none⟩,
  ⟨some 29, .lens (.t 28), [6], none⟩,
  ⟨some 30, .bin .lss (.t 22) (.t 29), [0, 7], none⟩]
def r42_5 : List AR := [⟨some 33, .ld true 7 (.t 3), [], none⟩,
  ⟨some 34, .mov (.t 1), [], none⟩,
  ⟨some 35, .mov (.t 10), [], none⟩,
  ⟨some 36, .mov (.t 8), [], none⟩,
  ⟨some 37, .mov (.t 9), [], none⟩,
  ⟨some 38, .call 69 [.t 33, .t 34, .t 35, .t 36, .t 37], [0, 1, 2, 3, 4], none⟩,
  ⟨some 11, .alloc 58 true [.int .i64 0, .int .i64 0, .int .i64 0, .int .i64 0, .int .i64 0, .int .i64 0, .str ⟨#[]⟩, .str ⟨#[]⟩, .str ⟨#[]⟩, .int .i64 0, .int .i64 0, .bool false, .nils, .nils], [], none⟩,
  ⟨none, .st 14 (.t 11) (.t 38), [6, 5, 5, 0, 1, 2, 3, 4, 5, 6], none⟩]
def r42_6 : List AR := [⟨some 39, .mov (.t 2), [], none⟩,
  ⟨some 40, .un .not (.t 39), [0], none⟩]
def r42_7 : List AR := [⟨some 41, .ld true 7 (.t 3), [], none⟩,
  ⟨some 42, .fad (.t 11) 4, [], none⟩,
  ⟨some 43, .ld false 1 (.t 42), [1], none⟩,
  ⟨some 44, .call 70 [.t 41, .t 43], [0, 2], none⟩,
  ⟨some 12, .mov (.t 44), [3, 3, 0, 1, 2, 3], none⟩]
def r42_8 : List AR := [⟨some 45, .fad (.t 3) 6, [], none⟩,
  ⟨some 46, .ld false 1 (.t 45), [0], none⟩,
  ⟨some 47, .bin .gtr (.t 46) (.c (.int .u8 0)), [1], none⟩,
  ⟨some 48, .mov (.t 47), [2], none⟩,
  ⟨some 49, .fad (.t 3) 6, [3], some (48, true)⟩,
  ⟨some 50, .ld false 1 (.t 49), [4, 3], some (48, true)⟩,
  ⟨some 51, .cvi .i64 (.t 50), [5, 3], some (48, true)⟩,
  ⟨some 52, .bin .rem (.t 51) (.c (.int .i64 8)), [6, 3], some (48, true)⟩,
  ⟨some 53, .mov (.t 10), [3], some (48, true)⟩,
  ⟨some 54, .bin .eql (.t 52) (.t 53), [7, 8, 3], some (48, true)⟩,
  ⟨some 55, .pick (.t 48) (.t 54) (.c (.bool false)), [3, 9], none⟩,
  ⟨some 56, .mov (.t 55), [10, 3], none⟩,
  ⟨some 57, .fad (.t 3) 6, [11], some (56, true)⟩,
  ⟨some 58, .ld false 1 (.t 57), [12, 11], some (56, true)⟩,
  ⟨some 59, .cvi .i64 (.t 58), [13, 11], some (56, true)⟩,
  ⟨some 60, .bin .quo (.t 59) (.c (.int .i64 8)), [14, 11], some (56, true)⟩,
  ⟨some 61, .bin .rem (.t 60) (.c (.int .i64 3)), [15, 11], some (56, true)⟩,
  ⟨some 62, .mov (.t 1), [11], some (56, true)⟩,
  ⟨some 63, .bin .eql (.t 61) (.t 62), [16, 17, 11], some (56, true)⟩,
  ⟨some 64, .pick (.t 56) (.t 63) (.c (.bool false)), [11, 18], none⟩]
def r42_9 : List AR := [⟨some 65, .mov (.t 12), [], none⟩,
  ⟨some 66, .bin .add (.t 65) (.c (.int .i64 500)), [0], none⟩,
  ⟨some 12, .mov (.t 66), [1, 0, 1], none⟩]
def r42_10 : List AR := [⟨some 67, .fad (.t 11) 9, [], none⟩,
  ⟨some 68, .ld false 1 (.t 67), [0], none⟩,
  ⟨some 69, .mov (.t 12), [], none⟩,
  ⟨some 70, .bin .add (.t 68) (.t 69), [1, 2], none⟩,
  ⟨some 71, .fad (.t 11) 10, [], none⟩,
  ⟨some 72, .ld false 1 (.t 71), [4], none⟩,
  ⟨some 73, .mov (.t 12), [], none⟩,
  ⟨some 74, .bin .add (.t 72) (.t 73), [5, 6], none⟩,
  ⟨some 75, .fad (.t 11) 9, [0, 1, 2, 3, 4, 5], none⟩,
  ⟨none, .st 1 (.t 75) (.t 70), [8, 3, 0, 1, 2, 3, 4, 5], none⟩,
  ⟨some 76, .fad (.t 11) 10, [0, 1, 2, 3, 4, 5, 6, 7, 8, 9], none⟩,
  ⟨none, .st 1 (.t 76) (.t 74), [10, 7, 9, 0, 1, 2, 3, 4, 5, 6, 7, 8, 9], none⟩]
def r42_11 : List AR := [⟨some 77, .mov (.t 7), [], none⟩,
  ⟨some 78, .ld true 14 (.t 11), [], none⟩,
  ⟨some 79, .bsl 58 14 1 [.int .i64 0, .int .i64 0, .int .i64 0, .int .i64 0, .int .i64 0, .int .i64 0, .str ⟨#[]⟩, .str ⟨#[]⟩, .str ⟨#[]⟩, .int .i64 0, .int .i64 0, .bool false, .nils, .nils] [(0, .t 78)], [1], none⟩,
  ⟨some 80, .app 58 14 168 [.int .i64 0, .int .i64 0, .int .i64 0, .int .i64 0, .int .i64 0, .int .i64 0, .str ⟨#[]⟩, .str ⟨#[]⟩, .str ⟨#[]⟩, .int .i64 0, .int .i64 0, .bool false, .nils, .nils] (.t 77) (.t 79), [0, 2], none⟩,
  ⟨some 7, .mov (.t 80), [3, 3, 0, 1, 2, 3], none⟩]
def r42_12 : List AR := [⟨some 31, .mov (.t 10), [], none⟩,
  ⟨some 32, .bin .add (.t 31) (.c (.int .i64 1)), [0], none⟩,
  ⟨some 10, .mov (.t 32), [1, 0, 1], none⟩]
def r42_13 : List AR := [⟨some 81, .mov (.t 7), [], none⟩,
  ⟨some 6, .mov (.t 81), [0, 0], none⟩]
def c42 : ACode := .seq (.reg r42_0 false) (.seq (.reg r42_1 false) (.seq (.reg r42_2 false) (.seq (.seq (.reg r42_3 false) (.blk 0 (.loop (.seq (.seq (.reg r42_4 false) (.cond (.t 30) (.skip) (.exit 0))) (.seq (.blk 1 (.seq (.reg r42_5 false) (.seq (.seq (.reg r42_6 false) (.cond (.t 40) (.seq (.reg r42_7 false) (.seq (.seq (.reg r42_8 false) (.cond (.t 64) (.reg r42_9 false) (.skip))) (.reg r42_10 false))) (.skip))) (.reg r42_11 false)))) (.reg r42_12 false)))))) (.seq (.reg r42_13 false) (.ret)))))
theorem body42 : Try.f42.body.map (comp Try.prog 82) = some c42 := by kernel_rfl
theorem res42 : allSome (Try.f42.results.toList.map (compRes Try.prog)) = some [.s 6] := by kernel_rfl
theorem cok42 {S : FSpec} (h : ∀ args K, S args K → args.all argOk = true ∧ args.length ≤ 82 ∧ AW Try.prog 82 (some ownP) c42 (initS args) (retPost [.s 6] args K)) : COK Try.prog 42 S := of_body Try.func42 Try.ntmps42 body42 res42 h

def J42_2 (v7026 : List TSpan) (r7096 : TSpan) (N7072 : ((List TSpan) × Int) → Prop) (v7027 : Int) (v7109 : Int) (v7110 : Int) : Prop :=
  Fits ((v7026 ++ [(TSpan.mk r7096.trace r7096.id r7096.parent r7096.revision r7096.clock r7096.kind r7096.service r7096.version r7096.operation v7109 v7110 r7096.error r7096.attrs r7096.links)]).length * 168) (N7072 ((v7026 ++ [(TSpan.mk r7096.trace r7096.id r7096.parent r7096.revision r7096.clock r7096.kind r7096.service r7096.version r7096.operation v7109 v7110 r7096.error r7096.attrs r7096.links)]), (w64 (v7027 + 1))))

def J42_3 (v7026 : List TSpan) (r7096 : TSpan) (N7072 : ((List TSpan) × Int) → Prop) (v7027 : Int) (v7115 : Int) : Prop :=
  J42_2 v7026 r7096 N7072 v7027 (w64 (r7096.start + v7115)) (w64 (r7096.end_ + v7115))

def J42_4 (v7026 : List TSpan) (r7096 : TSpan) (N7072 : ((List TSpan) × Int) → Prop) (v7027 : Int) (r7112 : Int) (v7116 : Bool) : Prop :=
  Cond v7116 (J42_3 v7026 r7096 N7072 v7027 (w64 (r7112 + 500))) (J42_3 v7026 r7096 N7072 v7027 r7112)

def L42_1 (x6807 : TTree) (s_42 : TStory) (k_42 : Int) (r6808 : ((List Int) × (List Int))) (truly_42 : Bool) (K : (List TSpan) → Prop) (v7026 : List TSpan) (v7027 : Int) (N7072 : ((List TSpan) × Int) → Prop) : Prop :=
  Cond (decide (v7027 < (x6807.calls.length : Int))) (W69 s_42 k_42 v7027 r6808.1 r6808.2 fun r7096 => Cond (!truly_42) (W70 s_42 r7096.clock fun r7112 => Cond (decide (s_42.wrong > 0)) (Cond (decide ((Int.tmod (w64 s_42.wrong) 8) = v7027)) (J42_4 v7026 r7096 N7072 v7027 r7112 (decide ((Int.tmod (w64 (Int.tdiv (w64 s_42.wrong) 8)) 3) = k_42))) (J42_4 v7026 r7096 N7072 v7027 r7112 false)) (J42_4 v7026 r7096 N7072 v7027 r7112 false)) (J42_2 v7026 r7096 N7072 v7027 r7096.start r7096.end_)) (K v7026)

/-- sleuth/sleuthlaw13.Trace -/
def W42 (s_42 : TStory) (k_42 : Int) (truly_42 : Bool) (K : (List TSpan) → Prop) : Prop :=
  Idx s_42.trees k_42 fun x6807 => W68 x6807 fun r6808 => LoopW (fun (s : ((List TSpan) × Int)) N7072 => L42_1 x6807 s_42 k_42 r6808 truly_42 K s.1 s.2 N7072) ([], 0)

def S42 : FSpec := fun args K => ∃ (s_42 : TStory), ∃ (k_42 : Int), ∃ (truly_42 : Bool), ∃ (Kr : (List TSpan) → Prop), args = [.agg (List.map RC.d (TStory.enc s_42)), .one (.d (.int .i64 k_42)), .one (.d (.bool truly_42))] ∧ W42 s_42 k_42 truly_42 Kr ∧ ∀ r, Kr r → K (.one (.d (.sl (List.map TSpan.enc r)))) []

theorem en42 : enters Try.prog 42 = true := by unfold enters; rw [Try.func42]; rfl
theorem cl42 (s_42 : TStory) (k_42 : Int) (truly_42 : Bool) {Kr : (List TSpan) → Prop} (h : W42 s_42 k_42 truly_42 Kr) : S42 [.agg (List.map RC.d (TStory.enc s_42)), .one (.d (.int .i64 k_42)), .one (.d (.bool truly_42))] (fun rv rows => ∃ r, rv = (.one (.d (.sl (List.map TSpan.enc r)))) ∧ rows = [] ∧ Kr r) := ⟨s_42, k_42, truly_42, Kr, rfl, h, fun r hr => ⟨r, rfl, rfl, hr⟩⟩

theorem ok42 : COK Try.prog 42 S42 := by
  refine cok42 fun args K0 hS => ?_
  obtain ⟨s_42, k_42, truly_42, K, rfl, h, hK⟩ := hS
  refine ⟨by kernel_rfl, by simp, ?_⟩
  unfold W42 at h
  refine AW.sregL [(0, none), (1, none)] (by kernel_rfl) ?_
  refine l_det (some 3) (.one (.ref 3 1 0 0), [(3, 1, .row true 27 7 [[.d (.sl (List.map TTree.enc s_42.trees)), .d (.int .i8 s_42.offsets.e0), .d (.int .i8 s_42.offsets.e1), .d (.int .i8 s_42.offsets.e2), .d (.int .i8 s_42.offsets.e3), .d (.sl (List.map TSync.enc s_42.syncs)), .d (.int .u8 s_42.wrong)]])]) (by kernel_rfl) ?_
  refine l_ds 6 (.one (.nils)) ?_
  refine l_nil ?_
  refine AW.sregL [(0, none)] (by kernel_rfl) ?_
  refine l_ds 7 (.one (.nils)) ?_
  refine l_nil ?_
  refine AW.sregL [(0, none), (1, none), (2, none), (3, none), (4, none), (5, none), (6, none), (7, none), (8, none), (9, none), (10, none)] (by kernel_rfl) ?_
  refine l_ds 14 (.one (.ref 3 1 0 0)) ?_
  refine l_ds 15 (.one (.d (.sl (List.map TTree.enc s_42.trees)))) ?_
  refine l_ds 16 (.one (.d (.int .i64 k_42))) ?_
  obtain ⟨h4, x6807, h5, h⟩ := h
  refine l_spec (some 17) (.iad 3 (.t 15) (.t 16)) (.one (.d (.ptr [.int .u8 x6807.slot, .int .u8 x6807.start, .sl (List.map TCall.enc x6807.calls)])), []) (by kernel_rfl) (detA_none (d_iad_sl (enc := TTree.enc) (k := .i64) s_42.trees x6807 (by kernel_rfl) (by kernel_rfl) h4 h5 rfl)) ?_
  refine l_ds 18 (.agg [.d (.int .u8 x6807.slot), .d (.int .u8 x6807.start), .d (.sl (List.map TCall.enc x6807.calls))]) ?_
  refine l_call ok68 en68 (some 19) [.agg [.d (.int .u8 x6807.slot), .d (.int .u8 x6807.start), .d (.sl (List.map TCall.enc x6807.calls))]] [false] [.agg (List.map RC.d [.int .u8 x6807.slot, .int .u8 x6807.start, .sl (List.map TCall.enc x6807.calls)])] [] (by kernel_rfl) ⟨by kernel_rfl, by kernel_rfl⟩ (by kernel_rfl) (by kernel_rfl) (by kernel_rfl) (cl68 x6807 h) ?_
  rintro hR _ _ ⟨r6808, rfl, rfl, h⟩
  refine ⟨false, (.tup [.one (.d (.sl (List.map (eInt .i64) r6808.1))), .one (.d (.sl (List.map (eInt .i64) r6808.2)))], []), (fun hz => (by cases hz)), (ret_R hR (by kernel_rfl)), ?_⟩
  refine l_ds 13 (.tup [.one (.d (.sl (List.map (eInt .i64) r6808.1))), .one (.d (.sl (List.map (eInt .i64) r6808.2)))]) ?_
  refine l_ds 20 (.one (.d (.sl (List.map (eInt .i64) r6808.1)))) ?_
  refine l_ds 21 (.one (.d (.sl (List.map (eInt .i64) r6808.2)))) ?_
  refine l_ds 8 (.one (.d (.sl (List.map (eInt .i64) r6808.1)))) ?_
  refine l_ds 9 (.one (.d (.sl (List.map (eInt .i64) r6808.2)))) ?_
  refine l_nil ?_
  refine AW.seq ?_
  refine AW.sregL [(0, none)] (by kernel_rfl) ?_
  refine l_ds 10 (.one (.d (.int .i64 0))) ?_
  refine l_nil ?_
  refine AW.blk ?_
  refine AW.loopL (S := ((List TSpan) × Int)) (fun s => (fun (v7026 : List TSpan) (v7027 : Int) => [(1, .one (.d (.int .i64 k_42))), (2, .one (.d (.bool truly_42))), (3, .one (.ref 200001 0 0 0)), (7, .one (.view 200002 0 0 ((List.map TSpan.enc v7026).length))), (8, .one (.d (.sl (List.map (eInt .i64) r6808.1)))), (9, .one (.d (.sl (List.map (eInt .i64) r6808.2)))), (10, .one (.d (.int .i64 v7027)))]) s.1 s.2) (fun s => (fun (v7026 : List TSpan) (v7027 : Int) => [(200001, .expl true 27 7 [[.d (.sl (List.map TTree.enc s_42.trees)), .d (.int .i8 s_42.offsets.e0), .d (.int .i8 s_42.offsets.e1), .d (.int .i8 s_42.offsets.e2), .d (.int .i8 s_42.offsets.e3), .d (.sl (List.map TSync.enc s_42.syncs)), .d (.int .u8 s_42.wrong)]]), (200002, .pure true 58 14 (List.map TSpan.enc v7026))]) s.1 s.2) (fun (s : ((List TSpan) × Int)) N7072 => L42_1 x6807 s_42 k_42 r6808 truly_42 K s.1 s.2 N7072) (N := fun s => LoopW (fun (s : ((List TSpan) × Int)) N7072 => L42_1 x6807 s_42 k_42 r6808 truly_42 K s.1 s.2 N7072) s) (Lab.m ([], 0) [(200001, some 3), (200002, none)] h) (fun _ h => h) ?_
  rintro ⟨v7026, v7027⟩ N7072 h
  have h : L42_1 x6807 s_42 k_42 r6808 truly_42 K v7026 v7027 N7072 := h
  unfold L42_1 at h
  refine AW.seq ?_
  refine AW.sregL [(0, none), (1, none), (2, none), (3, none), (4, none), (5, none), (6, none), (7, none), (8, none)] (by kernel_rfl) ?_
  refine l_ds 22 (.one (.d (.int .i64 v7027))) ?_
  refine l_ds 23 (.one (.ref 200001 0 0 0)) ?_
  refine l_ds 24 (.one (.d (.sl (List.map TTree.enc s_42.trees)))) ?_
  refine l_ds 25 (.one (.d (.int .i64 k_42))) ?_
  refine l_spec (some 26) (.iad 3 (.t 24) (.t 25)) (.one (.d (.ptr [.int .u8 x6807.slot, .int .u8 x6807.start, .sl (List.map TCall.enc x6807.calls)])), []) (by kernel_rfl) (detA_none (d_iad_sl (enc := TTree.enc) (k := .i64) s_42.trees x6807 (by kernel_rfl) (by kernel_rfl) h4 h5 rfl)) ?_
  refine l_ds 27 (.one (.d (.ptr [.sl (List.map TCall.enc x6807.calls)]))) ?_
  refine l_ds 28 (.one (.d (.sl (List.map TCall.enc x6807.calls)))) ?_
  refine l_spec (some 29) (.lens (.t 28)) (.one (.d (.int .i64 (x6807.calls.length : Int))), []) (by kernel_rfl) (detA_none (d_lens_sl (enc := TCall.enc) x6807.calls (by kernel_rfl))) ?_
  refine l_ds 30 (.one (.d (.bool (decide (v7027 < (x6807.calls.length : Int)))))) ?_
  refine l_nil ?_
  refine AW.cond' (by kernel_rfl) h (fun h => ?_) (fun h => ?_)
  · refine AW.skip ?_
    refine q_fall ?_
    refine AW.seq ?_
    refine AW.blk ?_
    refine AW.sregL [(0, none), (1, none), (2, none), (3, none), (4, none), (5, none), (6, none), (7, none)] (by kernel_rfl) ?_
    refine l_ds 33 (.agg [.d (.sl (List.map TTree.enc s_42.trees)), .d (.int .i8 s_42.offsets.e0), .d (.int .i8 s_42.offsets.e1), .d (.int .i8 s_42.offsets.e2), .d (.int .i8 s_42.offsets.e3), .d (.sl (List.map TSync.enc s_42.syncs)), .d (.int .u8 s_42.wrong)]) ?_
    refine l_ds 34 (.one (.d (.int .i64 k_42))) ?_
    refine l_ds 35 (.one (.d (.int .i64 v7027))) ?_
    refine l_ds 36 (.one (.d (.sl (List.map (eInt .i64) r6808.1)))) ?_
    refine l_ds 37 (.one (.d (.sl (List.map (eInt .i64) r6808.2)))) ?_
    refine l_call ok69 en69 (some 38) [.agg [.d (.sl (List.map TTree.enc s_42.trees)), .d (.int .i8 s_42.offsets.e0), .d (.int .i8 s_42.offsets.e1), .d (.int .i8 s_42.offsets.e2), .d (.int .i8 s_42.offsets.e3), .d (.sl (List.map TSync.enc s_42.syncs)), .d (.int .u8 s_42.wrong)], .one (.d (.int .i64 k_42)), .one (.d (.int .i64 v7027)), .one (.d (.sl (List.map (eInt .i64) r6808.1))), .one (.d (.sl (List.map (eInt .i64) r6808.2)))] [false, false, false, false, false] [.agg (List.map RC.d [.sl (List.map TTree.enc s_42.trees), .int .i8 s_42.offsets.e0, .int .i8 s_42.offsets.e1, .int .i8 s_42.offsets.e2, .int .i8 s_42.offsets.e3, .sl (List.map TSync.enc s_42.syncs), .int .u8 s_42.wrong]), .one (.d (.int .i64 k_42)), .one (.d (.int .i64 v7027)), .one (.d (.sl (List.map (eInt .i64) r6808.1))), .one (.d (.sl (List.map (eInt .i64) r6808.2)))] [] (by kernel_rfl) ⟨by kernel_rfl, by kernel_rfl⟩ (by kernel_rfl) (by kernel_rfl) (by kernel_rfl) (cl69 s_42 k_42 v7027 r6808.1 r6808.2 h) ?_
    rintro hR _ _ ⟨r7096, rfl, rfl, h⟩
    refine ⟨false, (.agg [.d (.int .i64 r7096.trace), .d (.int .i64 r7096.id), .d (.int .i64 r7096.parent), .d (.int .i64 r7096.revision), .d (.int .i64 r7096.clock), .d (.int .i64 r7096.kind), .d (.str r7096.service), .d (.str r7096.version), .d (.str r7096.operation), .d (.int .i64 r7096.start), .d (.int .i64 r7096.end_), .d (.bool r7096.error), .d (.sl (List.map TAttr.enc r7096.attrs)), .d (.sl (List.map TRef.enc r7096.links))], []), (fun hz => (by cases hz)), (ret_R hR (by kernel_rfl)), ?_⟩
    refine l_det (some 11) (.one (.ref 11 1 0 0), [(11, 1, .row true 58 14 [[.d (.int .i64 0), .d (.int .i64 0), .d (.int .i64 0), .d (.int .i64 0), .d (.int .i64 0), .d (.int .i64 0), .d (.str (⟨#[]⟩ : ByteArray)), .d (.str (⟨#[]⟩ : ByteArray)), .d (.str (⟨#[]⟩ : ByteArray)), .d (.int .i64 0), .d (.int .i64 0), .d (.bool false), .nils, .nils]])]) (by kernel_rfl) ?_
    refine l_det none (.tup [], [(11, 1, .row true 58 14 [[.d (.int .i64 r7096.trace), .d (.int .i64 r7096.id), .d (.int .i64 r7096.parent), .d (.int .i64 r7096.revision), .d (.int .i64 r7096.clock), .d (.int .i64 r7096.kind), .d (.str r7096.service), .d (.str r7096.version), .d (.str r7096.operation), .d (.int .i64 r7096.start), .d (.int .i64 r7096.end_), .d (.bool r7096.error), .d (.sl (List.map TAttr.enc r7096.attrs)), .d (.sl (List.map TRef.enc r7096.links))]])]) (by kernel_rfl) ?_
    refine l_nil ?_
    refine AW.seqL (S := (Int × Int)) (fun s => (fun (v7109 : Int) (v7110 : Int) => [(1, .one (.d (.int .i64 k_42))), (2, .one (.d (.bool truly_42))), (3, .one (.ref 200001 0 0 0)), (7, .one (.view 200002 0 0 ((List.map TSpan.enc v7026).length))), (8, .one (.d (.sl (List.map (eInt .i64) r6808.1)))), (9, .one (.d (.sl (List.map (eInt .i64) r6808.2)))), (10, .one (.d (.int .i64 v7027))), (11, .one (.ref 200003 0 0 0))]) s.1 s.2) (fun s => (fun (v7109 : Int) (v7110 : Int) => [(200001, .expl true 27 7 [[.d (.sl (List.map TTree.enc s_42.trees)), .d (.int .i8 s_42.offsets.e0), .d (.int .i8 s_42.offsets.e1), .d (.int .i8 s_42.offsets.e2), .d (.int .i8 s_42.offsets.e3), .d (.sl (List.map TSync.enc s_42.syncs)), .d (.int .u8 s_42.wrong)]]), (200002, .pure true 58 14 (List.map TSpan.enc v7026)), (200003, .expl true 58 14 [[.d (.int .i64 r7096.trace), .d (.int .i64 r7096.id), .d (.int .i64 r7096.parent), .d (.int .i64 r7096.revision), .d (.int .i64 r7096.clock), .d (.int .i64 r7096.kind), .d (.str r7096.service), .d (.str r7096.version), .d (.str r7096.operation), .d (.int .i64 v7109), .d (.int .i64 v7110), .d (.bool r7096.error), .d (.sl (List.map TAttr.enc r7096.attrs)), .d (.sl (List.map TRef.enc r7096.links))]])]) s.1 s.2) (fun s : (Int × Int) => J42_2 v7026 r7096 N7072 v7027 s.1 s.2) ?_ ?_
    · refine AW.sregL [(0, none), (1, none)] (by kernel_rfl) ?_
      refine l_ds 39 (.one (.d (.bool truly_42))) ?_
      refine l_ds 40 (.one (.d (.bool (!truly_42)))) ?_
      refine l_nil ?_
      refine AW.cond' (by kernel_rfl) h (fun h => ?_) (fun h => ?_)
      · refine AW.sregL [(0, none), (1, none), (2, none), (3, none), (4, none)] (by kernel_rfl) ?_
        refine l_ds 41 (.agg [.d (.sl (List.map TTree.enc s_42.trees)), .d (.int .i8 s_42.offsets.e0), .d (.int .i8 s_42.offsets.e1), .d (.int .i8 s_42.offsets.e2), .d (.int .i8 s_42.offsets.e3), .d (.sl (List.map TSync.enc s_42.syncs)), .d (.int .u8 s_42.wrong)]) ?_
        refine l_ds 42 (.one (.ref 11 1 0 4)) ?_
        refine l_ds 43 (.one (.d (.int .i64 r7096.clock))) ?_
        refine l_call ok70 en70 (some 44) [.agg [.d (.sl (List.map TTree.enc s_42.trees)), .d (.int .i8 s_42.offsets.e0), .d (.int .i8 s_42.offsets.e1), .d (.int .i8 s_42.offsets.e2), .d (.int .i8 s_42.offsets.e3), .d (.sl (List.map TSync.enc s_42.syncs)), .d (.int .u8 s_42.wrong)], .one (.d (.int .i64 r7096.clock))] [false, false] [.agg (List.map RC.d [.sl (List.map TTree.enc s_42.trees), .int .i8 s_42.offsets.e0, .int .i8 s_42.offsets.e1, .int .i8 s_42.offsets.e2, .int .i8 s_42.offsets.e3, .sl (List.map TSync.enc s_42.syncs), .int .u8 s_42.wrong]), .one (.d (.int .i64 r7096.clock))] [] (by kernel_rfl) ⟨by kernel_rfl, by kernel_rfl⟩ (by kernel_rfl) (by kernel_rfl) (by kernel_rfl) (cl70 s_42 r7096.clock h) ?_
        rintro hR _ _ ⟨r7112, rfl, rfl, h⟩
        refine ⟨false, (.one (.d (.int .i64 r7112)), []), (fun hz => (by cases hz)), (ret_R hR (by kernel_rfl)), ?_⟩
        refine l_ds 12 (.one (.d (.int .i64 r7112))) ?_
        refine l_nil ?_
        refine AW.seqL (S := Int) (fun s => (fun (v7115 : Int) => [(1, .one (.d (.int .i64 k_42))), (2, .one (.d (.bool truly_42))), (3, .one (.ref 200001 0 0 0)), (7, .one (.view 200002 0 0 ((List.map TSpan.enc v7026).length))), (8, .one (.d (.sl (List.map (eInt .i64) r6808.1)))), (9, .one (.d (.sl (List.map (eInt .i64) r6808.2)))), (10, .one (.d (.int .i64 v7027))), (11, .one (.ref 200003 0 0 0)), (12, .one (.d (.int .i64 v7115)))]) s) (fun s => (fun (v7115 : Int) => [(200001, .expl true 27 7 [[.d (.sl (List.map TTree.enc s_42.trees)), .d (.int .i8 s_42.offsets.e0), .d (.int .i8 s_42.offsets.e1), .d (.int .i8 s_42.offsets.e2), .d (.int .i8 s_42.offsets.e3), .d (.sl (List.map TSync.enc s_42.syncs)), .d (.int .u8 s_42.wrong)]]), (200002, .pure true 58 14 (List.map TSpan.enc v7026)), (200003, .expl true 58 14 [[.d (.int .i64 r7096.trace), .d (.int .i64 r7096.id), .d (.int .i64 r7096.parent), .d (.int .i64 r7096.revision), .d (.int .i64 r7096.clock), .d (.int .i64 r7096.kind), .d (.str r7096.service), .d (.str r7096.version), .d (.str r7096.operation), .d (.int .i64 r7096.start), .d (.int .i64 r7096.end_), .d (.bool r7096.error), .d (.sl (List.map TAttr.enc r7096.attrs)), .d (.sl (List.map TRef.enc r7096.links))]])]) s) (fun s : Int => J42_3 v7026 r7096 N7072 v7027 s) ?_ ?_
        · refine AW.seqL (S := Bool) (fun s => (fun (v7116 : Bool) => [(1, .one (.d (.int .i64 k_42))), (2, .one (.d (.bool truly_42))), (3, .one (.ref 200001 0 0 0)), (7, .one (.view 200002 0 0 ((List.map TSpan.enc v7026).length))), (8, .one (.d (.sl (List.map (eInt .i64) r6808.1)))), (9, .one (.d (.sl (List.map (eInt .i64) r6808.2)))), (10, .one (.d (.int .i64 v7027))), (11, .one (.ref 200003 0 0 0)), (12, .one (.d (.int .i64 r7112))), (64, .one (.d (.bool v7116)))]) s) (fun s => (fun (v7116 : Bool) => [(200001, .expl true 27 7 [[.d (.sl (List.map TTree.enc s_42.trees)), .d (.int .i8 s_42.offsets.e0), .d (.int .i8 s_42.offsets.e1), .d (.int .i8 s_42.offsets.e2), .d (.int .i8 s_42.offsets.e3), .d (.sl (List.map TSync.enc s_42.syncs)), .d (.int .u8 s_42.wrong)]]), (200002, .pure true 58 14 (List.map TSpan.enc v7026)), (200003, .expl true 58 14 [[.d (.int .i64 r7096.trace), .d (.int .i64 r7096.id), .d (.int .i64 r7096.parent), .d (.int .i64 r7096.revision), .d (.int .i64 r7096.clock), .d (.int .i64 r7096.kind), .d (.str r7096.service), .d (.str r7096.version), .d (.str r7096.operation), .d (.int .i64 r7096.start), .d (.int .i64 r7096.end_), .d (.bool r7096.error), .d (.sl (List.map TAttr.enc r7096.attrs)), .d (.sl (List.map TRef.enc r7096.links))]])]) s) (fun s : Bool => J42_4 v7026 r7096 N7072 v7027 r7112 s) ?_ ?_
          · refine AW.regL [(0, none), (1, none), (2, none), (3, none), (4, none), (5, none), (6, none), (7, none), (8, none), (9, none), (10, none), (11, none), (12, none), (13, none), (14, none), (15, none), (16, none), (17, none), (18, none), (19, none)] (by kernel_rfl) ?_
            refine l_ds 45 (.one (.ref 200001 0 0 6)) ?_
            refine l_ds 46 (.one (.d (.int .u8 s_42.wrong))) ?_
            refine l_ds 47 (.one (.d (.bool (decide (s_42.wrong > 0))))) ?_
            refine l_ds 48 (.one (.d (.bool (decide (s_42.wrong > 0))))) ?_
            refine l_split (s := 48) (by kernel_rfl) h (fun h => ?_) (fun h => ?_)
            · refine l_ds 49 (.one (.ref 200001 0 0 6)) ?_
              refine l_ds 50 (.one (.d (.int .u8 s_42.wrong))) ?_
              refine l_ds 51 (.one (.d (.int .i64 (w64 s_42.wrong)))) ?_
              refine l_ds 52 (.one (.d (.int .i64 (Int.tmod (w64 s_42.wrong) 8)))) ?_
              refine l_ds 53 (.one (.d (.int .i64 v7027))) ?_
              refine l_ds 54 (.one (.d (.bool (decide ((Int.tmod (w64 s_42.wrong) 8) = v7027))))) ?_
              refine l_ds 55 (.one (.d (.bool (decide ((Int.tmod (w64 s_42.wrong) 8) = v7027))))) ?_
              refine l_ds 56 (.one (.d (.bool (decide ((Int.tmod (w64 s_42.wrong) 8) = v7027))))) ?_
              refine l_split (s := 56) (by kernel_rfl) h (fun h => ?_) (fun h => ?_)
              · refine l_ds 57 (.one (.ref 200001 0 0 6)) ?_
                refine l_ds 58 (.one (.d (.int .u8 s_42.wrong))) ?_
                refine l_ds 59 (.one (.d (.int .i64 (w64 s_42.wrong)))) ?_
                refine l_ds 60 (.one (.d (.int .i64 (w64 (Int.tdiv (w64 s_42.wrong) 8))))) ?_
                refine l_ds 61 (.one (.d (.int .i64 (Int.tmod (w64 (Int.tdiv (w64 s_42.wrong) 8)) 3)))) ?_
                refine l_ds 62 (.one (.d (.int .i64 k_42))) ?_
                refine l_ds 63 (.one (.d (.bool (decide ((Int.tmod (w64 (Int.tdiv (w64 s_42.wrong) 8)) 3) = k_42))))) ?_
                refine l_ds 64 (.one (.d (.bool (decide ((Int.tmod (w64 (Int.tdiv (w64 s_42.wrong) 8)) 3) = k_42))))) ?_
                refine l_nil ?_
                refine q_fall ?_
                exact Lab.m (decide ((Int.tmod (w64 (Int.tdiv (w64 s_42.wrong) 8)) 3) = k_42)) [(200001, some 200001), (200002, some 200002), (200003, some 11)] h
              · refine l_ds 57 (.tup []) ?_
                refine l_ds 58 (.tup []) ?_
                refine l_ds 59 (.tup []) ?_
                refine l_ds 60 (.tup []) ?_
                refine l_ds 61 (.tup []) ?_
                refine l_ds 62 (.tup []) ?_
                refine l_ds 63 (.tup []) ?_
                refine l_ds 64 (.one (.d (.bool false))) ?_
                refine l_nil ?_
                refine q_fall ?_
                exact Lab.m false [(200001, some 200001), (200002, some 200002), (200003, some 11)] h
            · refine l_ds 49 (.tup []) ?_
              refine l_ds 50 (.tup []) ?_
              refine l_ds 51 (.tup []) ?_
              refine l_ds 52 (.tup []) ?_
              refine l_ds 53 (.tup []) ?_
              refine l_ds 54 (.tup []) ?_
              refine l_ds 55 (.one (.d (.bool false))) ?_
              refine l_ds 56 (.one (.d (.bool false))) ?_
              refine l_ds 57 (.tup []) ?_
              refine l_ds 58 (.tup []) ?_
              refine l_ds 59 (.tup []) ?_
              refine l_ds 60 (.tup []) ?_
              refine l_ds 61 (.tup []) ?_
              refine l_ds 62 (.tup []) ?_
              refine l_ds 63 (.tup []) ?_
              refine l_ds 64 (.one (.d (.bool false))) ?_
              refine l_nil ?_
              refine q_fall ?_
              exact Lab.m false [(200001, some 200001), (200002, some 200002), (200003, some 11)] h
          · rintro v7116 h
            have h : J42_4 v7026 r7096 N7072 v7027 r7112 v7116 := h
            unfold J42_4 at h
            refine AW.cond' (by kernel_rfl) h (fun h => ?_) (fun h => ?_)
            · refine AW.regL [(0, none), (1, none), (2, none)] (by kernel_rfl) ?_
              refine l_ds 65 (.one (.d (.int .i64 r7112))) ?_
              refine l_ds 66 (.one (.d (.int .i64 (w64 (r7112 + 500))))) ?_
              refine l_ds 12 (.one (.d (.int .i64 (w64 (r7112 + 500))))) ?_
              refine l_nil ?_
              refine q_fall ?_
              exact Lab.m (w64 (r7112 + 500)) [(200001, some 200001), (200002, some 200002), (200003, some 200003)] h
            · refine AW.skip ?_
              refine q_fall ?_
              exact Lab.m r7112 [(200001, some 200001), (200002, some 200002), (200003, some 200003)] h
        · rintro v7115 h
          have h : J42_3 v7026 r7096 N7072 v7027 v7115 := h
          unfold J42_3 at h
          refine AW.regL [(0, none), (1, none), (2, none), (3, none), (4, none), (5, none), (6, none), (7, none), (8, none), (9, none), (10, none), (11, none)] (by kernel_rfl) ?_
          refine l_ds 67 (.one (.ref 200003 0 0 9)) ?_
          refine l_ds 68 (.one (.d (.int .i64 r7096.start))) ?_
          refine l_ds 69 (.one (.d (.int .i64 v7115))) ?_
          refine l_ds 70 (.one (.d (.int .i64 (w64 (r7096.start + v7115))))) ?_
          refine l_ds 71 (.one (.ref 200003 0 0 10)) ?_
          refine l_ds 72 (.one (.d (.int .i64 r7096.end_))) ?_
          refine l_ds 73 (.one (.d (.int .i64 v7115))) ?_
          refine l_ds 74 (.one (.d (.int .i64 (w64 (r7096.end_ + v7115))))) ?_
          refine l_ds 75 (.one (.ref 200003 0 0 9)) ?_
          refine l_det none (.tup [], [(200003, 0, .row true 58 14 [[.d (.int .i64 r7096.trace), .d (.int .i64 r7096.id), .d (.int .i64 r7096.parent), .d (.int .i64 r7096.revision), .d (.int .i64 r7096.clock), .d (.int .i64 r7096.kind), .d (.str r7096.service), .d (.str r7096.version), .d (.str r7096.operation), .d (.int .i64 (w64 (r7096.start + v7115))), .d (.int .i64 r7096.end_), .d (.bool r7096.error), .d (.sl (List.map TAttr.enc r7096.attrs)), .d (.sl (List.map TRef.enc r7096.links))]])]) (by kernel_rfl) ?_
          refine l_ds 76 (.one (.ref 200003 0 0 10)) ?_
          refine l_det none (.tup [], [(200003, 0, .row true 58 14 [[.d (.int .i64 r7096.trace), .d (.int .i64 r7096.id), .d (.int .i64 r7096.parent), .d (.int .i64 r7096.revision), .d (.int .i64 r7096.clock), .d (.int .i64 r7096.kind), .d (.str r7096.service), .d (.str r7096.version), .d (.str r7096.operation), .d (.int .i64 (w64 (r7096.start + v7115))), .d (.int .i64 (w64 (r7096.end_ + v7115))), .d (.bool r7096.error), .d (.sl (List.map TAttr.enc r7096.attrs)), .d (.sl (List.map TRef.enc r7096.links))]])]) (by kernel_rfl) ?_
          refine l_nil ?_
          refine q_fall ?_
          exact Lab.m ((w64 (r7096.start + v7115)), (w64 (r7096.end_ + v7115))) [(200001, some 200001), (200002, some 200002), (200003, some 200003)] h
      · refine AW.skip ?_
        refine q_fall ?_
        exact Lab.m (r7096.start, r7096.end_) [(200001, some 200001), (200002, some 200002), (200003, some 11)] h
    · rintro ⟨v7109, v7110⟩ h
      have h : J42_2 v7026 r7096 N7072 v7027 v7109 v7110 := h
      unfold J42_2 at h
      refine AW.regL [(0, none), (1, none), (2, none), (3, none), (4, none)] (by kernel_rfl) ?_
      refine l_ds 77 (.one (.view 200002 0 0 ((List.map TSpan.enc v7026).length))) ?_
      refine l_ds 78 (.agg [.d (.int .i64 r7096.trace), .d (.int .i64 r7096.id), .d (.int .i64 r7096.parent), .d (.int .i64 r7096.revision), .d (.int .i64 r7096.clock), .d (.int .i64 r7096.kind), .d (.str r7096.service), .d (.str r7096.version), .d (.str r7096.operation), .d (.int .i64 v7109), .d (.int .i64 v7110), .d (.bool r7096.error), .d (.sl (List.map TAttr.enc r7096.attrs)), .d (.sl (List.map TRef.enc r7096.links))]) ?_
      refine l_det (some 79) (.one (.view 79 1 0 1), [(79, 1, .row true 58 14 [[.d (.int .i64 r7096.trace), .d (.int .i64 r7096.id), .d (.int .i64 r7096.parent), .d (.int .i64 r7096.revision), .d (.int .i64 r7096.clock), .d (.int .i64 r7096.kind), .d (.str r7096.service), .d (.str r7096.version), .d (.str r7096.operation), .d (.int .i64 v7109), .d (.int .i64 v7110), .d (.bool r7096.error), .d (.sl (List.map TAttr.enc r7096.attrs)), .d (.sl (List.map TRef.enc r7096.links))]])]) (by kernel_rfl) ?_
      obtain ⟨h112, h⟩ := h
      refine l_spec (some 80) (.app 58 14 168 [.int .i64 0, .int .i64 0, .int .i64 0, .int .i64 0, .int .i64 0, .int .i64 0, .str ⟨#[]⟩, .str ⟨#[]⟩, .str ⟨#[]⟩, .int .i64 0, .int .i64 0, .bool false, .nils, .nils] (.t 77) (.t 79)) (.one (.view 200002 1 0 ((List.map TSpan.enc (v7026 ++ [(TSpan.mk r7096.trace r7096.id r7096.parent r7096.revision r7096.clock r7096.kind r7096.service r7096.version r7096.operation v7109 v7110 r7096.error r7096.attrs r7096.links)])).length)), [(200002, 1, .row true 58 14 (dmm (List.map TSpan.enc (v7026 ++ [(TSpan.mk r7096.trace r7096.id r7096.parent r7096.revision r7096.clock r7096.kind r7096.service r7096.version r7096.operation v7109 v7110 r7096.error r7096.attrs r7096.links)]))))]) (by kernel_rfl) (detA_none (d_app_v (enc := TSpan.enc) (xc := .view 79 1 0 1) v7026 [(TSpan.mk r7096.trace r7096.id r7096.parent r7096.revision r7096.clock r7096.kind r7096.service r7096.version r7096.operation v7109 v7110 r7096.error r7096.attrs r7096.links)] (by kernel_rfl) (by kernel_rfl) (by kernel_rfl) (by kernel_rfl) (by kernel_rfl) h112 (by kernel_rfl))) ?_
      refine l_ds 7 (.one (.view 200002 1 0 ((List.map TSpan.enc (v7026 ++ [(TSpan.mk r7096.trace r7096.id r7096.parent r7096.revision r7096.clock r7096.kind r7096.service r7096.version r7096.operation v7109 v7110 r7096.error r7096.attrs r7096.links)])).length))) ?_
      refine l_nil ?_
      refine q_bfall ?_
      refine q_fall ?_
      refine AW.regL [(0, none), (1, none), (2, none)] (by kernel_rfl) ?_
      refine l_ds 31 (.one (.d (.int .i64 v7027))) ?_
      refine l_ds 32 (.one (.d (.int .i64 (w64 (v7027 + 1))))) ?_
      refine l_ds 10 (.one (.d (.int .i64 (w64 (v7027 + 1))))) ?_
      refine l_nil ?_
      refine q_fall ?_
      exact Lab.m ((v7026 ++ [(TSpan.mk r7096.trace r7096.id r7096.parent r7096.revision r7096.clock r7096.kind r7096.service r7096.version r7096.operation v7109 v7110 r7096.error r7096.attrs r7096.links)]), (w64 (v7027 + 1))) [(200001, some 200001), (200002, some 200002)] h
  · refine AW.exit ?_
    refine q_exit ?_
    refine q_exit ?_
    refine q_bhere ?_
    refine q_fall ?_
    refine AW.sregL [(0, none), (1, none)] (by kernel_rfl) ?_
    refine l_ds 81 (.one (.view 200002 0 0 ((List.map TSpan.enc v7026).length))) ?_
    refine l_ds 6 (.one (.view 200002 0 0 ((List.map TSpan.enc v7026).length))) ?_
    refine l_nil ?_
    refine AW.ret ?_
    exact q_end [.one (.view 200002 0 0 ((List.map TSpan.enc v7026).length))] [false] [.one (.d (.sl (List.map TSpan.enc v7026)))] [] [200002] (by kernel_rfl) (ps_plain (pv_one (pf_view (E := 58) (sz := 14) (l := true) (List.map TSpan.enc v7026) (by kernel_rfl) (by kernel_rfl) rfl)) ps_nil) (by kernel_rfl) (by kernel_rfl) (by kernel_rfl) (by kernel_rfl) (Eq.mp (by kernel_rfl) (hK v7026 h)) (.inr rfl)
def r17_0 : List AR := [⟨some 1, .box 27 true 7 (.t 0), [], none⟩,
  ⟨some 2, .mov (.c .nils), [], none⟩]
def r17_1 : List AR := [⟨some 3, .mov (.c .nils), [], none⟩]
def r17_2 : List AR := [⟨some 4, .mov (.c (.int .i64 0)), [], none⟩]
def r17_3 : List AR := [⟨some 7, .mov (.t 4), [], none⟩,
  ⟨some 8, .fad (.t 1) 0, [], none⟩,
  ⟨some 9, .ld false 1 (.t 8), [1], none⟩,
  ⟨some 10, .lens (.t 9), [2], none⟩,
  ⟨some 11, .bin .lss (.t 7) (.t 10), [0, 3], none⟩]
def r17_4 : List AR := [⟨some 14, .fad (.t 1) 0, [], none⟩,
  ⟨some 15, .ld false 1 (.t 14), [0], none⟩,
  ⟨some 16, .mov (.t 4), [], none⟩,
  ⟨some 17, .iad 3 (.t 15) (.t 16), [1, 2], none⟩,
  ⟨some 18, .fad (.t 17) 2, [3], none⟩,
  ⟨some 19, .ld false 1 (.t 18), [4], none⟩,
  ⟨some 20, .lens (.t 19), [5], none⟩,
  ⟨some 21, .bin .eql (.t 20) (.c (.int .i64 0)), [6], none⟩]
def r17_5 : List AR := [⟨some 22, .ld true 7 (.t 1), [], none⟩,
  ⟨some 23, .mov (.t 4), [], none⟩,
  ⟨some 24, .call 41 [.t 22, .t 23], [0, 1], none⟩,
  ⟨some 25, .ld true 7 (.t 1), [], none⟩,
  ⟨some 26, .mov (.t 4), [], none⟩,
  ⟨some 27, .call 42 [.t 25, .t 26, .c (.bool false)], [3, 4, 2], none⟩,
  ⟨some 28, .bld [.int .i64 0, .int .i64 0, .nils] [(0, 1, .t 24), (1, 1, .c (.int .i64 1)), (2, 1, .t 27)], [2, 5], none⟩,
  ⟨some 5, .alloc 53 true [.int .i64 0, .int .i64 0, .nils], [], none⟩,
  ⟨none, .st 3 (.t 5) (.t 28), [7, 6, 5, 0, 1, 2, 3, 4, 5, 6, 7], none⟩]
def r17_6 : List AR := [⟨some 29, .mov (.t 3), [], none⟩,
  ⟨some 30, .lens (.t 29), [0], none⟩,
  ⟨some 6, .mov (.t 30), [1, 0, 1], none⟩]
def r17_7 : List AR := [⟨some 31, .mov (.t 6), [], none⟩,
  ⟨some 32, .bin .gtr (.t 31) (.c (.int .i64 0)), [0], none⟩,
  ⟨some 33, .mov (.t 32), [1], none⟩,
  ⟨some 34, .mov (.t 3), [2], some (33, true)⟩,
  ⟨some 35, .mov (.t 6), [2], some (33, true)⟩,
  ⟨some 36, .bin .sub (.t 35) (.c (.int .i64 1)), [4, 2], some (33, true)⟩,
  ⟨some 37, .iad 3 (.t 34) (.t 36), [3, 5, 2], some (33, true)⟩,
  ⟨some 38, .fad (.t 37) 0, [6, 2], some (33, true)⟩,
  ⟨some 39, .ld false 1 (.t 38), [7, 2], some (33, true)⟩,
  ⟨some 40, .fad (.t 5) 0, [2], some (33, true)⟩,
  ⟨some 41, .ld false 1 (.t 40), [9, 2], some (33, true)⟩,
  ⟨some 42, .bin .gtr (.t 39) (.t 41), [8, 10, 2], some (33, true)⟩,
  ⟨some 43, .pick (.t 33) (.t 42) (.c (.bool false)), [2, 11], none⟩]
def r17_8 : List AR := [⟨some 44, .mov (.t 6), [], none⟩,
  ⟨some 45, .bin .sub (.t 44) (.c (.int .i64 1)), [0], none⟩,
  ⟨some 6, .mov (.t 45), [1, 0, 1], none⟩]
def r17_9 : List AR := [⟨some 46, .bsl 53 3 0 [.int .i64 0, .int .i64 0, .nils] [], [], none⟩,
  ⟨some 47, .mov (.t 3), [], none⟩,
  ⟨some 48, .mov (.t 6), [], none⟩,
  ⟨some 49, .slc 3 (.t 47) none (some (.t 48)) none, [1, 2], none⟩,
  ⟨some 50, .app 53 3 40 [.int .i64 0, .int .i64 0, .nils] (.t 46) (.t 49), [0, 3], none⟩,
  ⟨some 51, .ld true 3 (.t 5), [], none⟩,
  ⟨some 52, .bsl 53 3 1 [.int .i64 0, .int .i64 0, .nils] [(0, .t 51)], [5], none⟩,
  ⟨some 53, .app 53 3 40 [.int .i64 0, .int .i64 0, .nils] (.t 50) (.t 52), [4, 6, 4], none⟩,
  ⟨some 54, .mov (.t 3), [], none⟩,
  ⟨some 55, .mov (.t 6), [], none⟩,
  ⟨some 56, .slc 3 (.t 54) (some (.t 55)) none none, [8, 9], none⟩,
  ⟨some 57, .app 53 3 40 [.int .i64 0, .int .i64 0, .nils] (.t 53) (.t 56), [7, 10, 7], none⟩,
  ⟨some 3, .mov (.t 57), [11, 11, 0, 1, 2, 3, 4, 5, 6, 7, 8, 9, 10, 11], none⟩]
def r17_10 : List AR := [⟨some 12, .mov (.t 4), [], none⟩,
  ⟨some 13, .bin .add (.t 12) (.c (.int .i64 1)), [0], none⟩,
  ⟨some 4, .mov (.t 13), [1, 0, 1], none⟩]
def r17_11 : List AR := [⟨some 58, .mov (.t 3), [], none⟩,
  ⟨some 2, .mov (.t 58), [0, 0], none⟩]
def c17 : ACode := .seq (.reg r17_0 false) (.seq (.reg r17_1 false) (.seq (.seq (.reg r17_2 false) (.blk 0 (.loop (.seq (.seq (.reg r17_3 false) (.cond (.t 11) (.skip) (.exit 0))) (.seq (.blk 1 (.seq (.seq (.reg r17_4 false) (.cond (.t 21) (.exit 1) (.skip))) (.seq (.reg r17_5 true) (.seq (.reg r17_6 false) (.seq (.blk 2 (.loop (.seq (.seq (.reg r17_7 true) (.cond (.t 43) (.skip) (.exit 2))) (.blk 3 (.reg r17_8 false))))) (.reg r17_9 true)))))) (.reg r17_10 false)))))) (.seq (.reg r17_11 false) (.ret))))
theorem body17 : Try.f17.body.map (comp Try.prog 59) = some c17 := by kernel_rfl
theorem res17 : allSome (Try.f17.results.toList.map (compRes Try.prog)) = some [.s 2] := by kernel_rfl
theorem cok17 {S : FSpec} (h : ∀ args K, S args K → args.all argOk = true ∧ args.length ≤ 59 ∧ AW Try.prog 59 (some ownP) c17 (initS args) (retPost [.s 2] args K)) : COK Try.prog 17 S := of_body Try.func17 Try.ntmps17 body17 res17 h

def J17_2 (N7722 : ((List TTrace) × Int) → Prop) (v7540 : Int) (v7843 : List TTrace) : Prop :=
  N7722 (v7843, (w64 (v7540 + 1)))

def J17_4 (N7895 : Int → Prop) (v7886 : Int) (v7539 : List TTrace) (r7850 : Int) (r7851 : (List TSpan)) (N7722 : ((List TTrace) × Int) → Prop) (v7540 : Int) (v7902 : Bool) : Prop :=
  Cond v7902 (N7895 (w64 (v7886 - 1))) (0 ≤ v7886 ∧ v7886 ≤ (v7539.length : Int) ∧ (0 ≤ v7886 ∧ v7886 ≤ (v7539.length : Int) ∧ (Fits (([] ++ (List.take (v7886.toNat - 0) (List.drop 0 v7539))).length * 40) (Fits ((([] ++ (List.take (v7886.toNat - 0) (List.drop 0 v7539))) ++ [(TTrace.mk r7850 1 r7851)]).length * 40) (Fits (((([] ++ (List.take (v7886.toNat - 0) (List.drop 0 v7539))) ++ [(TTrace.mk r7850 1 r7851)]) ++ (List.take (v7539.length - v7886.toNat) (List.drop v7886.toNat v7539))).length * 40) (J17_2 N7722 v7540 ((([] ++ (List.take (v7886.toNat - 0) (List.drop 0 v7539))) ++ [(TTrace.mk r7850 1 r7851)]) ++ (List.take (v7539.length - v7886.toNat) (List.drop v7886.toNat v7539)))))))))

def L17_3 (v7539 : List TTrace) (r7850 : Int) (r7851 : (List TSpan)) (N7722 : ((List TTrace) × Int) → Prop) (v7540 : Int) (v7886 : Int) (N7895 : Int → Prop) : Prop :=
  Cond (decide (v7886 > 0)) (Idx v7539 (w64 (v7886 - 1)) fun x7903 => J17_4 N7895 v7886 v7539 r7850 r7851 N7722 v7540 (decide (x7903.id > r7850))) (J17_4 N7895 v7886 v7539 r7850 r7851 N7722 v7540 false)

def L17_1 (s_17 : TStory) (K : (List TTrace) → Prop) (v7539 : List TTrace) (v7540 : Int) (N7722 : ((List TTrace) × Int) → Prop) : Prop :=
  Cond (decide (v7540 < (s_17.trees.length : Int))) (Idx s_17.trees v7540 fun x7847 => Cond (decide ((x7847.calls.length : Int) = 0)) (J17_2 N7722 v7540 v7539) (W41 s_17 v7540 fun r7850 => W42 s_17 v7540 false fun r7851 => LoopW (fun (s : Int) N7895 => L17_3 v7539 r7850 r7851 N7722 v7540 s N7895) (v7539.length : Int))) (K v7539)

/-- sleuth/sleuthlaw13.Traces -/
def W17 (s_17 : TStory) (K : (List TTrace) → Prop) : Prop :=
  LoopW (fun (s : ((List TTrace) × Int)) N7722 => L17_1 s_17 K s.1 s.2 N7722) ([], 0)

def S17 : FSpec := fun args K => ∃ (s_17 : TStory), ∃ (Kr : (List TTrace) → Prop), args = [.agg (List.map RC.d (TStory.enc s_17))] ∧ W17 s_17 Kr ∧ ∀ r, Kr r → K (.one (.own 53 3 (List.map TTrace.enc r))) []

theorem en17 : enters Try.prog 17 = true := by unfold enters; rw [Try.func17]; rfl
theorem cl17 (s_17 : TStory) {Kr : (List TTrace) → Prop} (h : W17 s_17 Kr) : S17 [.agg (List.map RC.d (TStory.enc s_17))] (fun rv rows => ∃ r, rv = (.one (.own 53 3 (List.map TTrace.enc r))) ∧ rows = [] ∧ Kr r) := ⟨s_17, Kr, rfl, h, fun r hr => ⟨r, rfl, rfl, hr⟩⟩

theorem ok17 : COK Try.prog 17 S17 := by
  refine cok17 fun args K0 hS => ?_
  obtain ⟨s_17, K, rfl, h, hK⟩ := hS
  refine ⟨by kernel_rfl, by simp, ?_⟩
  unfold W17 at h
  refine AW.sregL [(0, none), (1, none)] (by kernel_rfl) ?_
  refine l_det (some 1) (.one (.ref 1 1 0 0), [(1, 1, .row true 27 7 [[.d (.sl (List.map TTree.enc s_17.trees)), .d (.int .i8 s_17.offsets.e0), .d (.int .i8 s_17.offsets.e1), .d (.int .i8 s_17.offsets.e2), .d (.int .i8 s_17.offsets.e3), .d (.sl (List.map TSync.enc s_17.syncs)), .d (.int .u8 s_17.wrong)]])]) (by kernel_rfl) ?_
  refine l_ds 2 (.one (.nils)) ?_
  refine l_nil ?_
  refine AW.sregL [(0, none)] (by kernel_rfl) ?_
  refine l_ds 3 (.one (.nils)) ?_
  refine l_nil ?_
  refine AW.seq ?_
  refine AW.sregL [(0, none)] (by kernel_rfl) ?_
  refine l_ds 4 (.one (.d (.int .i64 0))) ?_
  refine l_nil ?_
  refine AW.blk ?_
  refine AW.loopL (S := ((List TTrace) × Int)) (fun s => (fun (v7539 : List TTrace) (v7540 : Int) => [(1, .one (.ref 200001 0 0 0)), (3, .one (.view 200002 0 0 ((List.map TTrace.enc v7539).length))), (4, .one (.d (.int .i64 v7540)))]) s.1 s.2) (fun s => (fun (v7539 : List TTrace) (v7540 : Int) => [(200001, .expl true 27 7 [[.d (.sl (List.map TTree.enc s_17.trees)), .d (.int .i8 s_17.offsets.e0), .d (.int .i8 s_17.offsets.e1), .d (.int .i8 s_17.offsets.e2), .d (.int .i8 s_17.offsets.e3), .d (.sl (List.map TSync.enc s_17.syncs)), .d (.int .u8 s_17.wrong)]]), (200002, .pure true 53 3 (List.map TTrace.enc v7539))]) s.1 s.2) (fun (s : ((List TTrace) × Int)) N7722 => L17_1 s_17 K s.1 s.2 N7722) (N := fun s => LoopW (fun (s : ((List TTrace) × Int)) N7722 => L17_1 s_17 K s.1 s.2 N7722) s) (Lab.m ([], 0) [(200001, some 1), (200002, none)] h) (fun _ h => h) ?_
  rintro ⟨v7539, v7540⟩ N7722 h
  have h : L17_1 s_17 K v7539 v7540 N7722 := h
  unfold L17_1 at h
  refine AW.seq ?_
  refine AW.sregL [(0, none), (1, none), (2, none), (3, none), (4, none)] (by kernel_rfl) ?_
  refine l_ds 7 (.one (.d (.int .i64 v7540))) ?_
  refine l_ds 8 (.one (.ref 200001 0 0 0)) ?_
  refine l_ds 9 (.one (.d (.sl (List.map TTree.enc s_17.trees)))) ?_
  refine l_spec (some 10) (.lens (.t 9)) (.one (.d (.int .i64 (s_17.trees.length : Int))), []) (by kernel_rfl) (detA_none (d_lens_sl (enc := TTree.enc) s_17.trees (by kernel_rfl))) ?_
  refine l_ds 11 (.one (.d (.bool (decide (v7540 < (s_17.trees.length : Int)))))) ?_
  refine l_nil ?_
  refine AW.cond' (by kernel_rfl) h (fun h => ?_) (fun h => ?_)
  · refine AW.skip ?_
    refine q_fall ?_
    refine AW.seqL (S := (List TTrace)) (fun s => (fun (v7843 : List TTrace) => [(1, .one (.ref 200001 0 0 0)), (3, .one (.view 200002 0 0 ((List.map TTrace.enc v7843).length))), (4, .one (.d (.int .i64 v7540)))]) s) (fun s => (fun (v7843 : List TTrace) => [(200001, .expl true 27 7 [[.d (.sl (List.map TTree.enc s_17.trees)), .d (.int .i8 s_17.offsets.e0), .d (.int .i8 s_17.offsets.e1), .d (.int .i8 s_17.offsets.e2), .d (.int .i8 s_17.offsets.e3), .d (.sl (List.map TSync.enc s_17.syncs)), .d (.int .u8 s_17.wrong)]]), (200002, .pure true 53 3 (List.map TTrace.enc v7843))]) s) (fun s : (List TTrace) => J17_2 N7722 v7540 s) ?_ ?_
    · refine AW.blk ?_
      refine AW.seq ?_
      refine AW.sregL [(0, none), (1, none), (2, none), (3, none), (4, none), (5, none), (6, none), (7, none)] (by kernel_rfl) ?_
      refine l_ds 14 (.one (.ref 200001 0 0 0)) ?_
      refine l_ds 15 (.one (.d (.sl (List.map TTree.enc s_17.trees)))) ?_
      refine l_ds 16 (.one (.d (.int .i64 v7540))) ?_
      obtain ⟨h1156, x7847, h1157, h⟩ := h
      refine l_spec (some 17) (.iad 3 (.t 15) (.t 16)) (.one (.d (.ptr [.int .u8 x7847.slot, .int .u8 x7847.start, .sl (List.map TCall.enc x7847.calls)])), []) (by kernel_rfl) (detA_none (d_iad_sl (enc := TTree.enc) (k := .i64) s_17.trees x7847 (by kernel_rfl) (by kernel_rfl) h1156 h1157 rfl)) ?_
      refine l_ds 18 (.one (.d (.ptr [.sl (List.map TCall.enc x7847.calls)]))) ?_
      refine l_ds 19 (.one (.d (.sl (List.map TCall.enc x7847.calls)))) ?_
      refine l_spec (some 20) (.lens (.t 19)) (.one (.d (.int .i64 (x7847.calls.length : Int))), []) (by kernel_rfl) (detA_none (d_lens_sl (enc := TCall.enc) x7847.calls (by kernel_rfl))) ?_
      refine l_ds 21 (.one (.d (.bool (decide ((x7847.calls.length : Int) = 0))))) ?_
      refine l_nil ?_
      refine AW.cond' (by kernel_rfl) h (fun h => ?_) (fun h => ?_)
      · refine AW.exit ?_
        refine q_exit ?_
        refine q_bhere ?_
        refine q_fall ?_
        exact Lab.m v7539 [(200001, some 200001), (200002, some 200002)] h
      · refine AW.skip ?_
        refine q_fall ?_
        refine AW.sregdL follows_mixed [[], [], [0, 1], [], [], [0, 1, 2, 3, 4], [0, 1, 2, 3, 4, 5], [], [0, 1, 2, 3, 4, 5, 6, 7]] [(0, some [22, 1200001]), (1, none), (3, some [25, 1200001]), (4, none), (7, some [5]), (2, some [24]), (5, some [27]), (6, none), (8, none)] (by kernel_rfl) ?_
        refine l_ds 22 (.agg [.d (.sl (List.map TTree.enc s_17.trees)), .d (.int .i8 s_17.offsets.e0), .d (.int .i8 s_17.offsets.e1), .d (.int .i8 s_17.offsets.e2), .d (.int .i8 s_17.offsets.e3), .d (.sl (List.map TSync.enc s_17.syncs)), .d (.int .u8 s_17.wrong)]) ?_
        refine l_ds 23 (.one (.d (.int .i64 v7540))) ?_
        refine l_ds 25 (.agg [.d (.sl (List.map TTree.enc s_17.trees)), .d (.int .i8 s_17.offsets.e0), .d (.int .i8 s_17.offsets.e1), .d (.int .i8 s_17.offsets.e2), .d (.int .i8 s_17.offsets.e3), .d (.sl (List.map TSync.enc s_17.syncs)), .d (.int .u8 s_17.wrong)]) ?_
        refine l_ds 26 (.one (.d (.int .i64 v7540))) ?_
        refine l_det (some 5) (.one (.ref 5 1 0 0), [(5, 1, .row true 53 3 [[.d (.int .i64 0), .d (.int .i64 0), .nils]])]) (by kernel_rfl) ?_
        refine l_call ok41 en41 (some 24) [.agg [.d (.sl (List.map TTree.enc s_17.trees)), .d (.int .i8 s_17.offsets.e0), .d (.int .i8 s_17.offsets.e1), .d (.int .i8 s_17.offsets.e2), .d (.int .i8 s_17.offsets.e3), .d (.sl (List.map TSync.enc s_17.syncs)), .d (.int .u8 s_17.wrong)], .one (.d (.int .i64 v7540))] [false, false] [.agg (List.map RC.d [.sl (List.map TTree.enc s_17.trees), .int .i8 s_17.offsets.e0, .int .i8 s_17.offsets.e1, .int .i8 s_17.offsets.e2, .int .i8 s_17.offsets.e3, .sl (List.map TSync.enc s_17.syncs), .int .u8 s_17.wrong]), .one (.d (.int .i64 v7540))] [] (by kernel_rfl) ⟨by kernel_rfl, by kernel_rfl⟩ (by kernel_rfl) (by kernel_rfl) (by kernel_rfl) (cl41 s_17 v7540 h) ?_
        rintro hR _ _ ⟨r7850, rfl, rfl, h⟩
        refine ⟨false, (.one (.d (.int .i64 r7850)), []), (fun hz => (by cases hz)), (ret_R hR (by kernel_rfl)), ?_⟩
        refine l_call ok42 en42 (some 27) [.agg [.d (.sl (List.map TTree.enc s_17.trees)), .d (.int .i8 s_17.offsets.e0), .d (.int .i8 s_17.offsets.e1), .d (.int .i8 s_17.offsets.e2), .d (.int .i8 s_17.offsets.e3), .d (.sl (List.map TSync.enc s_17.syncs)), .d (.int .u8 s_17.wrong)], .one (.d (.int .i64 v7540)), .one (.d (.bool false))] [false, false, false] [.agg (List.map RC.d [.sl (List.map TTree.enc s_17.trees), .int .i8 s_17.offsets.e0, .int .i8 s_17.offsets.e1, .int .i8 s_17.offsets.e2, .int .i8 s_17.offsets.e3, .sl (List.map TSync.enc s_17.syncs), .int .u8 s_17.wrong]), .one (.d (.int .i64 v7540)), .one (.d (.bool false))] [] (by kernel_rfl) ⟨by kernel_rfl, by kernel_rfl⟩ (by kernel_rfl) (by kernel_rfl) (by kernel_rfl) (cl42 s_17 v7540 false h) ?_
        rintro hR _ _ ⟨r7851, rfl, rfl, h⟩
        refine ⟨false, (.one (.d (.sl (List.map TSpan.enc r7851))), []), (fun hz => (by cases hz)), (ret_R hR (by kernel_rfl)), ?_⟩
        refine l_ds 28 (.agg [.d (.int .i64 r7850), .d (.int .i64 1), .d (.sl (List.map TSpan.enc r7851))]) ?_
        refine l_det none (.tup [], [(5, 1, .row true 53 3 [[.d (.int .i64 r7850), .d (.int .i64 1), .d (.sl (List.map TSpan.enc r7851))]])]) (by kernel_rfl) ?_
        refine l_nil ?_
        refine AW.sregL [(0, none), (1, none), (2, none)] (by kernel_rfl) ?_
        refine l_ds 29 (.one (.view 200002 0 0 ((List.map TTrace.enc v7539).length))) ?_
        refine l_spec (some 30) (.lens (.t 29)) (.one (.d (.int .i64 (v7539.length : Int))), []) (by kernel_rfl) (detA_none (d_lens_v (enc := TTrace.enc) (o := 200002) (g := 0) v7539 (by kernel_rfl))) ?_
        refine l_ds 6 (.one (.d (.int .i64 (v7539.length : Int)))) ?_
        refine l_nil ?_
        refine AW.seq ?_
        refine AW.blk ?_
        refine AW.loopL (S := Int) (fun s => (fun (v7886 : Int) => [(1, .one (.ref 200001 0 0 0)), (3, .one (.view 200002 0 0 ((List.map TTrace.enc v7539).length))), (4, .one (.d (.int .i64 v7540))), (5, .one (.ref 200003 0 0 0)), (6, .one (.d (.int .i64 v7886)))]) s) (fun s => (fun (v7886 : Int) => [(200001, .expl true 27 7 [[.d (.sl (List.map TTree.enc s_17.trees)), .d (.int .i8 s_17.offsets.e0), .d (.int .i8 s_17.offsets.e1), .d (.int .i8 s_17.offsets.e2), .d (.int .i8 s_17.offsets.e3), .d (.sl (List.map TSync.enc s_17.syncs)), .d (.int .u8 s_17.wrong)]]), (200002, .pure true 53 3 (List.map TTrace.enc v7539)), (200003, .expl true 53 3 [[.d (.int .i64 r7850), .d (.int .i64 1), .d (.sl (List.map TSpan.enc r7851))]])]) s) (fun (s : Int) N7895 => L17_3 v7539 r7850 r7851 N7722 v7540 s N7895) (N := fun s => LoopW (fun (s : Int) N7895 => L17_3 v7539 r7850 r7851 N7722 v7540 s N7895) s) (Lab.m (v7539.length : Int) [(200001, some 200001), (200002, some 200002), (200003, some 5)] h) (fun _ h => h) ?_
        rintro v7886 N7895 h
        have h : L17_3 v7539 r7850 r7851 N7722 v7540 v7886 N7895 := h
        unfold L17_3 at h
        refine AW.seq ?_
        refine AW.seqL (S := Bool) (fun s => (fun (v7902 : Bool) => [(1, .one (.ref 200001 0 0 0)), (3, .one (.view 200002 0 0 ((List.map TTrace.enc v7539).length))), (4, .one (.d (.int .i64 v7540))), (5, .one (.ref 200003 0 0 0)), (6, .one (.d (.int .i64 v7886))), (43, .one (.d (.bool v7902)))]) s) (fun s => (fun (v7902 : Bool) => [(200001, .expl true 27 7 [[.d (.sl (List.map TTree.enc s_17.trees)), .d (.int .i8 s_17.offsets.e0), .d (.int .i8 s_17.offsets.e1), .d (.int .i8 s_17.offsets.e2), .d (.int .i8 s_17.offsets.e3), .d (.sl (List.map TSync.enc s_17.syncs)), .d (.int .u8 s_17.wrong)]]), (200002, .pure true 53 3 (List.map TTrace.enc v7539)), (200003, .expl true 53 3 [[.d (.int .i64 r7850), .d (.int .i64 1), .d (.sl (List.map TSpan.enc r7851))]])]) s) (fun s : Bool => J17_4 N7895 v7886 v7539 r7850 r7851 N7722 v7540 s) ?_ ?_
        · refine AW.regdL follows_mixed [[], [0], [0, 1], [0, 1, 2], [0, 1, 2], [0, 1, 2, 4], [0, 1, 2, 3, 4, 5], [0, 1, 2, 3, 4, 5, 6], [0, 1, 2, 3, 4, 5, 6, 7], [0, 1, 2], [0, 1, 2, 9], [0, 1, 2, 3, 4, 5, 6, 7, 8, 9, 10], [0, 1, 2, 3, 4, 5, 6, 7, 8, 9, 10, 11]] [(0, none), (1, none), (2, none), (3, none), (4, none), (5, none), (6, none), (7, none), (8, none), (9, none), (10, none), (11, none), (12, none)] (by kernel_rfl) ?_
          refine l_ds 31 (.one (.d (.int .i64 v7886))) ?_
          refine l_ds 32 (.one (.d (.bool (decide (v7886 > 0))))) ?_
          refine l_ds 33 (.one (.d (.bool (decide (v7886 > 0))))) ?_
          refine l_split (s := 33) (by kernel_rfl) h (fun h => ?_) (fun h => ?_)
          · refine l_ds 34 (.one (.view 200002 0 0 ((List.map TTrace.enc v7539).length))) ?_
            refine l_ds 35 (.one (.d (.int .i64 v7886))) ?_
            refine l_ds 36 (.one (.d (.int .i64 (w64 (v7886 - 1))))) ?_
            obtain ⟨h1241, x7903, h1242, h⟩ := h
            refine l_spec (some 37) (.iad 3 (.t 34) (.t 36)) (.one (.ref 200002 0 ((w64 (v7886 - 1)).toNat) 0), []) (by kernel_rfl) (detA_none (d_iad_v (enc := TTrace.enc) (k := .i64) (E := 53) (l := true) (ys := dmm (List.map TTrace.enc v7539)) v7539 x7903 (by kernel_rfl) (by kernel_rfl) (by kernel_rfl) (by kernel_rfl) h1241 h1242)) ?_
            refine l_ds 38 (.one (.ref 200002 0 ((w64 (v7886 - 1)).toNat) 0)) ?_
            refine l_spec (some 39) (.ld false 1 (.t 38)) (.one (.d (.int .i64 x7903.id)), []) (by kernel_rfl) (detA_none (d_ld_row (enc := TTrace.enc) (o := 200002) (g := 0) (i := ((w64 (v7886 - 1)).toNat)) (off := 0) (E := 53) (sz := 3) (l := true) v7539 x7903 (by kernel_rfl) (by kernel_rfl) (by kernel_rfl) h1242 (by kernel_rfl))) ?_
            refine l_ds 40 (.one (.ref 200003 0 0 0)) ?_
            refine l_ds 41 (.one (.d (.int .i64 r7850))) ?_
            refine l_ds 42 (.one (.d (.bool (decide (x7903.id > r7850))))) ?_
            refine l_ds 43 (.one (.d (.bool (decide (x7903.id > r7850))))) ?_
            refine l_nil ?_
            refine q_fall ?_
            exact Lab.m (decide (x7903.id > r7850)) [(200001, some 200001), (200002, some 200002), (200003, some 200003)] h
          · refine l_ds 34 (.tup []) ?_
            refine l_ds 35 (.tup []) ?_
            refine l_ds 36 (.tup []) ?_
            refine l_ds 37 (.tup []) ?_
            refine l_ds 38 (.tup []) ?_
            refine l_ds 39 (.tup []) ?_
            refine l_ds 40 (.tup []) ?_
            refine l_ds 41 (.tup []) ?_
            refine l_ds 42 (.tup []) ?_
            refine l_ds 43 (.one (.d (.bool false))) ?_
            refine l_nil ?_
            refine q_fall ?_
            exact Lab.m false [(200001, some 200001), (200002, some 200002), (200003, some 200003)] h
        · rintro v7902 h
          have h : J17_4 N7895 v7886 v7539 r7850 r7851 N7722 v7540 v7902 := h
          unfold J17_4 at h
          refine AW.cond' (by kernel_rfl) h (fun h => ?_) (fun h => ?_)
          · refine AW.skip ?_
            refine q_fall ?_
            refine AW.blk ?_
            refine AW.regL [(0, none), (1, none), (2, none)] (by kernel_rfl) ?_
            refine l_ds 44 (.one (.d (.int .i64 v7886))) ?_
            refine l_ds 45 (.one (.d (.int .i64 (w64 (v7886 - 1))))) ?_
            refine l_ds 6 (.one (.d (.int .i64 (w64 (v7886 - 1))))) ?_
            refine l_nil ?_
            refine q_bfall ?_
            refine q_fall ?_
            exact Lab.m (w64 (v7886 - 1)) [(200001, some 200001), (200002, some 200002), (200003, some 200003)] h
          · refine AW.exit ?_
            refine q_exit ?_
            refine q_exit ?_
            refine q_bhere ?_
            refine q_fall ?_
            refine AW.regdL follows_mixed [[], [], [], [1, 2], [0, 1, 2, 3], [], [5], [0, 1, 2, 3, 4, 5, 6], [], [], [8, 9], [0, 1, 2, 3, 4, 5, 6, 7, 8, 9, 10], [0, 1, 2, 3, 4, 5, 6, 7, 8, 9, 10, 11]] [(1, none), (2, none), (3, some [49, 1200002]), (5, some [51, 1200002, 1200003]), (8, none), (9, none), (10, some [56, 1200002]), (0, some [46]), (4, some [46, 50, 1200002]), (6, some [52]), (7, some [46, 53, 1000052]), (11, none), (12, none)] (by kernel_rfl) ?_
            refine l_ds 47 (.one (.view 200002 0 0 ((List.map TTrace.enc v7539).length))) ?_
            refine l_ds 48 (.one (.d (.int .i64 v7886))) ?_
            obtain ⟨h1232, h1233, h⟩ := h
            refine l_spec (some 49) (.slc 3 (.t 47) none (some (.t 48)) none) (.one (.view 200002 0 0 (v7886.toNat - 0)), []) (by kernel_rfl) (detA_some (d_slc_vf (enc := TTrace.enc) (E := 53) (l := true) (ys := dmm (List.map TTrace.enc v7539)) (lo' := none) (hi' := (some v7886)) v7539 (by kernel_rfl) (by kernel_rfl) (by kernel_rfl) (by kernel_rfl) (by kernel_rfl) (b_hi h1232 h1233)) (by kernel_rfl)) ?_
            refine l_ds 51 (.agg [.d (.int .i64 r7850), .d (.int .i64 1), .d (.sl (List.map TSpan.enc r7851))]) ?_
            refine l_ds 54 (.one (.view 200002 0 0 ((List.map TTrace.enc v7539).length))) ?_
            refine l_ds 55 (.one (.d (.int .i64 v7886))) ?_
            obtain ⟨h1235, h1236, h⟩ := h
            refine l_spec (some 56) (.slc 3 (.t 54) (some (.t 55)) none none) (.one (.view 200002 0 v7886.toNat (v7539.length - v7886.toNat)), []) (by kernel_rfl) (detA_some (d_slc_vf (enc := TTrace.enc) (E := 53) (l := true) (ys := dmm (List.map TTrace.enc v7539)) (lo' := (some v7886)) (hi' := none) v7539 (by kernel_rfl) (by kernel_rfl) (by kernel_rfl) (by kernel_rfl) (by kernel_rfl) (b_lo h1235 h1236)) (by kernel_rfl)) ?_
            refine l_det (some 46) (.one (.view 46 1 0 0), [(46, 1, .row true 53 3 [])]) (by kernel_rfl) ?_
            obtain ⟨h1238, h⟩ := h
            refine l_spec (some 50) (.app 53 3 40 [.int .i64 0, .int .i64 0, .nils] (.t 46) (.t 49)) (.one (.view 46 2 0 ((List.map TTrace.enc ([] ++ (List.take (v7886.toNat - 0) (List.drop 0 v7539)))).length)), [(46, 2, .row true 53 3 (dmm (List.map TTrace.enc ([] ++ (List.take (v7886.toNat - 0) (List.drop 0 v7539))))))]) (by kernel_rfl) (detA_some (d_app_v (enc := TTrace.enc) (xc := .view 200002 0 0 (v7886.toNat - 0)) [] (List.take (v7886.toNat - 0) (List.drop 0 v7539)) (by kernel_rfl) (by kernel_rfl) (by kernel_rfl) (by kernel_rfl) (e_part (E := 53) (l := true) v7539 (by kernel_rfl) (by kernel_rfl) (by simp only [List.length_map] at *; omega)) h1238 (by kernel_rfl)) (by kernel_rfl)) ?_
            refine l_det (some 52) (.one (.view 52 1 0 1), [(52, 1, .row true 53 3 [[.d (.int .i64 r7850), .d (.int .i64 1), .d (.sl (List.map TSpan.enc r7851))]])]) (by kernel_rfl) ?_
            obtain ⟨h1239, h⟩ := h
            refine l_spec (some 53) (.app 53 3 40 [.int .i64 0, .int .i64 0, .nils] (.t 50) (.t 52)) (.one (.view 46 3 0 ((List.map TTrace.enc (([] ++ (List.take (v7886.toNat - 0) (List.drop 0 v7539))) ++ [(TTrace.mk r7850 1 r7851)])).length)), [(46, 3, .row true 53 3 (dmm (List.map TTrace.enc (([] ++ (List.take (v7886.toNat - 0) (List.drop 0 v7539))) ++ [(TTrace.mk r7850 1 r7851)]))))]) (by kernel_rfl) (detA_some (d_app_v (enc := TTrace.enc) (xc := .view 52 1 0 1) ([] ++ (List.take (v7886.toNat - 0) (List.drop 0 v7539))) [(TTrace.mk r7850 1 r7851)] (by kernel_rfl) (by kernel_rfl) (by kernel_rfl) (by kernel_rfl) (by kernel_rfl) h1239 (by kernel_rfl)) (by kernel_rfl)) ?_
            obtain ⟨h1240, h⟩ := h
            refine l_spec (some 57) (.app 53 3 40 [.int .i64 0, .int .i64 0, .nils] (.t 53) (.t 56)) (.one (.view 46 4 0 ((List.map TTrace.enc ((([] ++ (List.take (v7886.toNat - 0) (List.drop 0 v7539))) ++ [(TTrace.mk r7850 1 r7851)]) ++ (List.take (v7539.length - v7886.toNat) (List.drop v7886.toNat v7539)))).length)), [(46, 4, .row true 53 3 (dmm (List.map TTrace.enc ((([] ++ (List.take (v7886.toNat - 0) (List.drop 0 v7539))) ++ [(TTrace.mk r7850 1 r7851)]) ++ (List.take (v7539.length - v7886.toNat) (List.drop v7886.toNat v7539))))))]) (by kernel_rfl) (detA_none (d_app_v (enc := TTrace.enc) (xc := .view 200002 0 v7886.toNat (v7539.length - v7886.toNat)) (([] ++ (List.take (v7886.toNat - 0) (List.drop 0 v7539))) ++ [(TTrace.mk r7850 1 r7851)]) (List.take (v7539.length - v7886.toNat) (List.drop v7886.toNat v7539)) (by kernel_rfl) (by kernel_rfl) (by kernel_rfl) (by kernel_rfl) (e_part (E := 53) (l := true) v7539 (by kernel_rfl) (by kernel_rfl) (by simp only [List.length_map] at *; omega)) h1240 (by kernel_rfl))) ?_
            refine l_ds 3 (.one (.view 46 4 0 ((List.map TTrace.enc ((([] ++ (List.take (v7886.toNat - 0) (List.drop 0 v7539))) ++ [(TTrace.mk r7850 1 r7851)]) ++ (List.take (v7539.length - v7886.toNat) (List.drop v7886.toNat v7539)))).length))) ?_
            refine l_nil ?_
            refine q_bfall ?_
            refine q_fall ?_
            exact Lab.m ((([] ++ (List.take (v7886.toNat - 0) (List.drop 0 v7539))) ++ [(TTrace.mk r7850 1 r7851)]) ++ (List.take (v7539.length - v7886.toNat) (List.drop v7886.toNat v7539))) [(200001, some 200001), (200002, some 46)] h
    · rintro v7843 h
      have h : J17_2 N7722 v7540 v7843 := h
      unfold J17_2 at h
      refine AW.regL [(0, none), (1, none), (2, none)] (by kernel_rfl) ?_
      refine l_ds 12 (.one (.d (.int .i64 v7540))) ?_
      refine l_ds 13 (.one (.d (.int .i64 (w64 (v7540 + 1))))) ?_
      refine l_ds 4 (.one (.d (.int .i64 (w64 (v7540 + 1))))) ?_
      refine l_nil ?_
      refine q_fall ?_
      exact Lab.m (v7843, (w64 (v7540 + 1))) [(200001, some 200001), (200002, some 200002)] h
  · refine AW.exit ?_
    refine q_exit ?_
    refine q_exit ?_
    refine q_bhere ?_
    refine q_fall ?_
    refine AW.sregL [(0, none), (1, none)] (by kernel_rfl) ?_
    refine l_ds 58 (.one (.view 200002 0 0 ((List.map TTrace.enc v7539).length))) ?_
    refine l_ds 2 (.one (.view 200002 0 0 ((List.map TTrace.enc v7539).length))) ?_
    refine l_nil ?_
    refine AW.ret ?_
    exact q_end [.one (.view 200002 0 0 ((List.map TTrace.enc v7539).length))] [true] [.one (.own 53 3 (List.map TTrace.enc v7539))] [] [] (by kernel_rfl) (ps_own (by kernel_rfl) (by kernel_rfl) rfl ps_nil) (by kernel_rfl) (by kernel_rfl) (by kernel_rfl) (by kernel_rfl) (Eq.mp (by kernel_rfl) (hK v7539 h)) (.inr rfl)
def r9_0 : List AR := [⟨some 3, .box 27 true 7 (.t 1), [], none⟩,
  ⟨some 4, .mov (.c (.bool false)), [], none⟩]
def r9_1 : List AR := [⟨some 7, .call 12 [], [], none⟩,
  ⟨some 8, .un .not (.t 7), [0], none⟩,
  ⟨some 9, .mov (.t 8), [1, 0], none⟩,
  ⟨some 10, .mov (.t 0), [2], some (9, false)⟩,
  ⟨some 11, .lens (.t 10), [3, 2], some (9, false)⟩,
  ⟨some 12, .bin .gtr (.t 11) (.c (.int .i64 3)), [4, 2], some (9, false)⟩,
  ⟨some 13, .pick (.t 9) (.c (.bool true)) (.t 12), [2, 5], none⟩,
  ⟨some 14, .mov (.t 13), [6, 2], none⟩,
  ⟨some 15, .ld true 7 (.t 3), [7], some (14, false)⟩,
  ⟨some 16, .call 16 [.t 15], [8, 7, 7], some (14, false)⟩,
  ⟨some 17, .un .not (.t 16), [9, 7], some (14, false)⟩,
  ⟨some 18, .pick (.t 14) (.c (.bool true)) (.t 17), [7, 10], none⟩]
def r9_2 : List AR := [⟨some 19, .call 12 [], [], none⟩,
  ⟨some 4, .mov (.t 19), [0, 0, 0], none⟩]
def r9_3 : List AR := [⟨some 5, .mov (.c (.int .i64 0)), [], none⟩]
def r9_4 : List AR := [⟨some 20, .mov (.t 5), [], none⟩,
  ⟨some 21, .mov (.t 0), [], none⟩,
  ⟨some 22, .lens (.t 21), [1], none⟩,
  ⟨some 23, .bin .lss (.t 20) (.t 22), [0, 2], none⟩]
def r9_5 : List AR := [⟨some 26, .mov (.t 0), [], none⟩,
  ⟨some 27, .mov (.t 5), [], none⟩,
  ⟨some 28, .iad 3 (.t 26) (.t 27), [0, 1], none⟩,
  ⟨some 29, .fad (.t 28) 2, [2], none⟩,
  ⟨some 30, .ld false 1 (.t 29), [3], none⟩,
  ⟨some 31, .lens (.t 30), [4], none⟩,
  ⟨some 32, .bin .gtr (.t 31) (.c (.int .i64 4)), [5], none⟩]
def r9_6 : List AR := [⟨some 4, .mov (.c (.bool true)), [], none⟩]
def r9_7 : List AR := [⟨some 6, .mov (.c (.int .i64 0)), [], none⟩]
def r9_8 : List AR := [⟨some 33, .mov (.t 6), [], none⟩,
  ⟨some 34, .mov (.t 0), [], none⟩,
  ⟨some 35, .mov (.t 5), [], none⟩,
  ⟨some 36, .iad 3 (.t 34) (.t 35), [1, 2], none⟩,
  ⟨some 37, .fad (.t 36) 2, [3], none⟩,
  ⟨some 38, .ld false 1 (.t 37), [4], none⟩,
  ⟨some 39, .lens (.t 38), [5], none⟩,
  ⟨some 40, .bin .lss (.t 33) (.t 39), [0, 6], none⟩]
def r9_9 : List AR := [⟨some 43, .mov (.t 0), [], none⟩,
  ⟨some 44, .mov (.t 5), [], none⟩,
  ⟨some 45, .iad 3 (.t 43) (.t 44), [0, 1], none⟩,
  ⟨some 46, .fad (.t 45) 2, [2], none⟩,
  ⟨some 47, .ld false 1 (.t 46), [3], none⟩,
  ⟨some 48, .mov (.t 6), [], none⟩,
  ⟨some 49, .iad 14 (.t 47) (.t 48), [4, 5], none⟩,
  ⟨some 50, .ld true 14 (.t 49), [6], none⟩,
  ⟨some 51, .call 29 [.t 50], [7], none⟩,
  ⟨some 52, .un .not (.t 51), [8], none⟩]
def r9_10 : List AR := [⟨some 4, .mov (.c (.bool true)), [], none⟩]
def r9_11 : List AR := [⟨some 41, .mov (.t 6), [], none⟩,
  ⟨some 42, .bin .add (.t 41) (.c (.int .i64 1)), [0], none⟩,
  ⟨some 6, .mov (.t 42), [1, 0, 1], none⟩]
def r9_12 : List AR := [⟨some 24, .mov (.t 5), [], none⟩,
  ⟨some 25, .bin .add (.t 24) (.c (.int .i64 1)), [0], none⟩,
  ⟨some 5, .mov (.t 25), [1, 0, 1], none⟩]
def r9_13 : List AR := [⟨some 53, .mov (.t 0), [], none⟩,
  ⟨some 54, .call 30 [.t 53], [0], none⟩,
  ⟨some 55, .mov (.t 0), [], none⟩,
  ⟨some 56, .call 31 [.t 55], [2, 1], none⟩,
  ⟨some 57, .bin .eql (.t 54) (.t 56), [1, 3], none⟩,
  ⟨some 58, .mov (.t 57), [4, 3], none⟩,
  ⟨some 59, .ld true 7 (.t 3), [5], some (58, true)⟩,
  ⟨some 60, .call 17 [.t 59], [6, 5, 5], some (58, true)⟩,
  ⟨some 61, .call 30 [.t 60], [7, 7, 5], some (58, true)⟩,
  ⟨some 62, .bin .eql (.t 61) (.c (.int .i64 0)), [8, 5], some (58, true)⟩,
  ⟨some 63, .pick (.t 58) (.t 62) (.c (.bool false)), [5, 9], none⟩,
  ⟨some 4, .mov (.t 63), [10, 8, 0, 1, 2, 3, 4, 5, 6, 7, 8, 9, 10], none⟩]
def c9 : ACode := .seq (.reg r9_0 false) (.seq (.seq (.reg r9_1 false) (.cond (.t 18) (.seq (.reg r9_2 false) (.ret)) (.skip))) (.seq (.seq (.reg r9_3 false) (.blk 0 (.loop (.seq (.seq (.reg r9_4 false) (.cond (.t 23) (.skip) (.exit 0))) (.seq (.blk 1 (.seq (.seq (.reg r9_5 false) (.cond (.t 32) (.seq (.reg r9_6 false) (.ret)) (.skip))) (.seq (.reg r9_7 false) (.blk 2 (.loop (.seq (.seq (.reg r9_8 false) (.cond (.t 40) (.skip) (.exit 2))) (.seq (.blk 3 (.seq (.reg r9_9 false) (.cond (.t 52) (.seq (.reg r9_10 false) (.ret)) (.skip)))) (.reg r9_11 false)))))))) (.reg r9_12 false)))))) (.seq (.reg r9_13 false) (.ret))))
theorem body9 : Try.f9.body.map (comp Try.prog 64) = some c9 := by kernel_rfl
theorem res9 : allSome (Try.f9.results.toList.map (compRes Try.prog)) = some [.s 4] := by kernel_rfl
theorem cok9 {S : FSpec} (h : ∀ args K, S args K → args.all argOk = true ∧ args.length ≤ 64 ∧ AW Try.prog 64 (some ownP) c9 (initS args) (retPost [.s 4] args K)) : COK Try.prog 9 S := of_body Try.func9 Try.ntmps9 body9 res9 h

def L9_3 (x2806 : TTrace) (K : Bool → Prop) (N2772 : Int → Prop) (v2711 : Int) (v2815 : Int) (N2824 : Int → Prop) : Prop :=
  Cond (decide (v2815 < (x2806.spans.length : Int))) (Idx x2806.spans v2815 fun x2831 => W29 x2831 fun r2832 => Cond (!r2832) (K true) (N2824 (w64 (v2815 + 1)))) (N2772 (w64 (v2711 + 1)))

def J9_4 (K : Bool → Prop) (v7910 : Bool) : Prop :=
  K v7910

def L9_2 (l_9 : List TTrace) (K : Bool → Prop) (s_9 : TStory) (v2711 : Int) (N2772 : Int → Prop) : Prop :=
  Cond (decide (v2711 < (l_9.length : Int))) (Idx l_9 v2711 fun x2806 => Cond (decide ((x2806.spans.length : Int) > 4)) (K true) (LoopW (fun (s : Int) N2824 => L9_3 x2806 K N2772 v2711 s N2824) 0)) (W30 l_9 fun r7911 => W31 l_9 fun r7912 => Cond (decide (r7911 = r7912)) (W17 s_9 fun r7913 => W30 r7913 fun r7914 => J9_4 K (decide (r7914 = 0))) (J9_4 K false))

def J9_1 (K : Bool → Prop) (l_9 : List TTrace) (s_9 : TStory) (v2410 : Bool) : Prop :=
  Cond v2410 (W12  fun r2412 => K r2412) (LoopW (fun (s : Int) N2772 => L9_2 l_9 K s_9 s N2772) 0)

/-- sleuth/sleuthlaw25.EstimateChecks -/
def W9 (l_9 : List TTrace) (s_9 : TStory) (K : Bool → Prop) : Prop :=
  W12  fun r7915 => Cond (!r7915) (J9_1 K l_9 s_9 true) (Cond (decide ((l_9.length : Int) > 3)) (J9_1 K l_9 s_9 true) (W16 s_9 fun r7916 => J9_1 K l_9 s_9 (!r7916)))

def S9 : FSpec := fun args K => ∃ (l_9 : List TTrace), ∃ (s_9 : TStory), ∃ (Kr : Bool → Prop), args = [.one (.d (.sl (List.map TTrace.enc l_9))), .agg (List.map RC.d (TStory.enc s_9))] ∧ W9 l_9 s_9 Kr ∧ ∀ r, Kr r → K (.one (.d (.bool r))) []

theorem en9 : enters Try.prog 9 = true := by unfold enters; rw [Try.func9]; rfl
theorem cl9 (l_9 : List TTrace) (s_9 : TStory) {Kr : Bool → Prop} (h : W9 l_9 s_9 Kr) : S9 [.one (.d (.sl (List.map TTrace.enc l_9))), .agg (List.map RC.d (TStory.enc s_9))] (fun rv rows => ∃ r, rv = (.one (.d (.bool r))) ∧ rows = [] ∧ Kr r) := ⟨l_9, s_9, Kr, rfl, h, fun r hr => ⟨r, rfl, rfl, hr⟩⟩

theorem ok9 : COK Try.prog 9 S9 := by
  refine cok9 fun args K0 hS => ?_
  obtain ⟨l_9, s_9, K, rfl, h, hK⟩ := hS
  refine ⟨by kernel_rfl, by simp, ?_⟩
  unfold W9 at h
  refine AW.sregL [(0, none), (1, none)] (by kernel_rfl) ?_
  refine l_det (some 3) (.one (.ref 3 1 0 0), [(3, 1, .row true 27 7 [[.d (.sl (List.map TTree.enc s_9.trees)), .d (.int .i8 s_9.offsets.e0), .d (.int .i8 s_9.offsets.e1), .d (.int .i8 s_9.offsets.e2), .d (.int .i8 s_9.offsets.e3), .d (.sl (List.map TSync.enc s_9.syncs)), .d (.int .u8 s_9.wrong)]])]) (by kernel_rfl) ?_
  refine l_ds 4 (.one (.d (.bool false))) ?_
  refine l_nil ?_
  refine AW.seq ?_
  refine AW.seqL (S := Bool) (fun s => (fun (v2410 : Bool) => [(0, .one (.d (.sl (List.map TTrace.enc l_9)))), (3, .one (.ref 200001 0 0 0)), (18, .one (.d (.bool v2410)))]) s) (fun s => (fun (v2410 : Bool) => [(200001, .expl true 27 7 [[.d (.sl (List.map TTree.enc s_9.trees)), .d (.int .i8 s_9.offsets.e0), .d (.int .i8 s_9.offsets.e1), .d (.int .i8 s_9.offsets.e2), .d (.int .i8 s_9.offsets.e3), .d (.sl (List.map TSync.enc s_9.syncs)), .d (.int .u8 s_9.wrong)]])]) s) (fun s : Bool => J9_1 K l_9 s_9 s) ?_ ?_
  · refine AW.regL [(0, none), (1, none), (2, none), (3, none), (4, none), (5, none), (6, none), (7, none), (8, none), (9, none), (10, none), (11, none)] (by kernel_rfl) ?_
    refine l_call ok12 en12 (some 7) [] [] [] [] (by kernel_rfl) ⟨by kernel_rfl, by kernel_rfl⟩ (by kernel_rfl) (by kernel_rfl) (by kernel_rfl) (cl12  h) ?_
    rintro hR _ _ ⟨r7915, rfl, rfl, h⟩
    refine ⟨false, (.one (.d (.bool r7915)), []), (fun hz => (by cases hz)), (ret_R hR (by kernel_rfl)), ?_⟩
    refine l_ds 8 (.one (.d (.bool (!r7915)))) ?_
    refine l_ds 9 (.one (.d (.bool (!r7915)))) ?_
    refine l_split (s := 9) (by kernel_rfl) h (fun h => ?_) (fun h => ?_)
    · refine l_ds 10 (.tup []) ?_
      refine l_ds 11 (.tup []) ?_
      refine l_ds 12 (.tup []) ?_
      refine l_ds 13 (.one (.d (.bool true))) ?_
      refine l_ds 14 (.one (.d (.bool true))) ?_
      refine l_ds 15 (.tup []) ?_
      refine l_skip (some 16) (by kernel_rfl) (by kernel_rfl) (by kernel_rfl) ?_
      refine l_ds 17 (.tup []) ?_
      refine l_ds 18 (.one (.d (.bool true))) ?_
      refine l_nil ?_
      refine q_fall ?_
      exact Lab.m true [(200001, some 3)] h
    · refine l_ds 10 (.one (.d (.sl (List.map TTrace.enc l_9)))) ?_
      refine l_spec (some 11) (.lens (.t 10)) (.one (.d (.int .i64 (l_9.length : Int))), []) (by kernel_rfl) (detA_none (d_lens_sl (enc := TTrace.enc) l_9 (by kernel_rfl))) ?_
      refine l_ds 12 (.one (.d (.bool (decide ((l_9.length : Int) > 3))))) ?_
      refine l_ds 13 (.one (.d (.bool (decide ((l_9.length : Int) > 3))))) ?_
      refine l_ds 14 (.one (.d (.bool (decide ((l_9.length : Int) > 3))))) ?_
      refine l_split (s := 14) (by kernel_rfl) h (fun h => ?_) (fun h => ?_)
      · refine l_ds 15 (.tup []) ?_
        refine l_skip (some 16) (by kernel_rfl) (by kernel_rfl) (by kernel_rfl) ?_
        refine l_ds 17 (.tup []) ?_
        refine l_ds 18 (.one (.d (.bool true))) ?_
        refine l_nil ?_
        refine q_fall ?_
        exact Lab.m true [(200001, some 3)] h
      · refine l_ds 15 (.agg [.d (.sl (List.map TTree.enc s_9.trees)), .d (.int .i8 s_9.offsets.e0), .d (.int .i8 s_9.offsets.e1), .d (.int .i8 s_9.offsets.e2), .d (.int .i8 s_9.offsets.e3), .d (.sl (List.map TSync.enc s_9.syncs)), .d (.int .u8 s_9.wrong)]) ?_
        refine l_call ok16 en16 (some 16) [.agg [.d (.sl (List.map TTree.enc s_9.trees)), .d (.int .i8 s_9.offsets.e0), .d (.int .i8 s_9.offsets.e1), .d (.int .i8 s_9.offsets.e2), .d (.int .i8 s_9.offsets.e3), .d (.sl (List.map TSync.enc s_9.syncs)), .d (.int .u8 s_9.wrong)]] [false] [.agg (List.map RC.d [.sl (List.map TTree.enc s_9.trees), .int .i8 s_9.offsets.e0, .int .i8 s_9.offsets.e1, .int .i8 s_9.offsets.e2, .int .i8 s_9.offsets.e3, .sl (List.map TSync.enc s_9.syncs), .int .u8 s_9.wrong])] [] (by kernel_rfl) ⟨by kernel_rfl, by kernel_rfl⟩ (by kernel_rfl) (by kernel_rfl) (by kernel_rfl) (cl16 s_9 h) ?_
        rintro hR _ _ ⟨r7916, rfl, rfl, h⟩
        refine ⟨false, (.one (.d (.bool r7916)), []), (fun hz => (by cases hz)), (ret_R hR (by kernel_rfl)), ?_⟩
        refine l_ds 17 (.one (.d (.bool (!r7916)))) ?_
        refine l_ds 18 (.one (.d (.bool (!r7916)))) ?_
        refine l_nil ?_
        refine q_fall ?_
        exact Lab.m (!r7916) [(200001, some 3)] h
  · rintro v2410 h
    have h : J9_1 K l_9 s_9 v2410 := h
    unfold J9_1 at h
    refine AW.cond' (by kernel_rfl) h (fun h => ?_) (fun h => ?_)
    · refine AW.sregL [(0, none), (1, none)] (by kernel_rfl) ?_
      refine l_call ok12 en12 (some 19) [] [] [] [] (by kernel_rfl) ⟨by kernel_rfl, by kernel_rfl⟩ (by kernel_rfl) (by kernel_rfl) (by kernel_rfl) (cl12  h) ?_
      rintro hR _ _ ⟨r2412, rfl, rfl, h⟩
      refine ⟨false, (.one (.d (.bool r2412)), []), (fun hz => (by cases hz)), (ret_R hR (by kernel_rfl)), ?_⟩
      refine l_ds 4 (.one (.d (.bool r2412))) ?_
      refine l_nil ?_
      refine AW.ret ?_
      refine q_ret ?_
      exact q_end [.one (.d (.bool r2412))] [false] [.one (.d (.bool r2412))] [] [] (by kernel_rfl) ⟨by kernel_rfl, by kernel_rfl⟩ (by kernel_rfl) (by kernel_rfl) (by kernel_rfl) (by kernel_rfl) (Eq.mp (by kernel_rfl) (hK r2412 h)) (.inr rfl)
    · refine AW.skip ?_
      refine q_fall ?_
      refine AW.seq ?_
      refine AW.sregL [(0, none)] (by kernel_rfl) ?_
      refine l_ds 5 (.one (.d (.int .i64 0))) ?_
      refine l_nil ?_
      refine AW.blk ?_
      refine AW.loopL (S := Int) (fun s => (fun (v2711 : Int) => [(0, .one (.d (.sl (List.map TTrace.enc l_9)))), (3, .one (.ref 200001 0 0 0)), (5, .one (.d (.int .i64 v2711)))]) s) (fun s => (fun (v2711 : Int) => [(200001, .expl true 27 7 [[.d (.sl (List.map TTree.enc s_9.trees)), .d (.int .i8 s_9.offsets.e0), .d (.int .i8 s_9.offsets.e1), .d (.int .i8 s_9.offsets.e2), .d (.int .i8 s_9.offsets.e3), .d (.sl (List.map TSync.enc s_9.syncs)), .d (.int .u8 s_9.wrong)]])]) s) (fun (s : Int) N2772 => L9_2 l_9 K s_9 s N2772) (N := fun s => LoopW (fun (s : Int) N2772 => L9_2 l_9 K s_9 s N2772) s) (Lab.m 0 [(200001, some 200001)] h) (fun _ h => h) ?_
      rintro v2711 N2772 h
      have h : L9_2 l_9 K s_9 v2711 N2772 := h
      unfold L9_2 at h
      refine AW.seq ?_
      refine AW.sregL [(0, none), (1, none), (2, none), (3, none)] (by kernel_rfl) ?_
      refine l_ds 20 (.one (.d (.int .i64 v2711))) ?_
      refine l_ds 21 (.one (.d (.sl (List.map TTrace.enc l_9)))) ?_
      refine l_spec (some 22) (.lens (.t 21)) (.one (.d (.int .i64 (l_9.length : Int))), []) (by kernel_rfl) (detA_none (d_lens_sl (enc := TTrace.enc) l_9 (by kernel_rfl))) ?_
      refine l_ds 23 (.one (.d (.bool (decide (v2711 < (l_9.length : Int)))))) ?_
      refine l_nil ?_
      refine AW.cond' (by kernel_rfl) h (fun h => ?_) (fun h => ?_)
      · refine AW.skip ?_
        refine q_fall ?_
        refine AW.seq ?_
        refine AW.blk ?_
        refine AW.seq ?_
        refine AW.sregL [(0, none), (1, none), (2, none), (3, none), (4, none), (5, none), (6, none)] (by kernel_rfl) ?_
        refine l_ds 26 (.one (.d (.sl (List.map TTrace.enc l_9)))) ?_
        refine l_ds 27 (.one (.d (.int .i64 v2711))) ?_
        obtain ⟨h505, x2806, h506, h⟩ := h
        refine l_spec (some 28) (.iad 3 (.t 26) (.t 27)) (.one (.d (.ptr [.int .i64 x2806.id, .int .i64 x2806.weight, .sl (List.map TSpan.enc x2806.spans)])), []) (by kernel_rfl) (detA_none (d_iad_sl (enc := TTrace.enc) (k := .i64) l_9 x2806 (by kernel_rfl) (by kernel_rfl) h505 h506 rfl)) ?_
        refine l_ds 29 (.one (.d (.ptr [.sl (List.map TSpan.enc x2806.spans)]))) ?_
        refine l_ds 30 (.one (.d (.sl (List.map TSpan.enc x2806.spans)))) ?_
        refine l_spec (some 31) (.lens (.t 30)) (.one (.d (.int .i64 (x2806.spans.length : Int))), []) (by kernel_rfl) (detA_none (d_lens_sl (enc := TSpan.enc) x2806.spans (by kernel_rfl))) ?_
        refine l_ds 32 (.one (.d (.bool (decide ((x2806.spans.length : Int) > 4))))) ?_
        refine l_nil ?_
        refine AW.cond' (by kernel_rfl) h (fun h => ?_) (fun h => ?_)
        · refine AW.sregL [(0, none)] (by kernel_rfl) ?_
          refine l_ds 4 (.one (.d (.bool true))) ?_
          refine l_nil ?_
          refine AW.ret ?_
          refine q_ret ?_
          refine q_bret ?_
          refine q_ret ?_
          refine q_ret ?_
          refine q_bret ?_
          refine q_ret ?_
          exact q_end [.one (.d (.bool true))] [false] [.one (.d (.bool true))] [] [] (by kernel_rfl) ⟨by kernel_rfl, by kernel_rfl⟩ (by kernel_rfl) (by kernel_rfl) (by kernel_rfl) (by kernel_rfl) (Eq.mp (by kernel_rfl) (hK true h)) (.inr rfl)
        · refine AW.skip ?_
          refine q_fall ?_
          refine AW.sregL [(0, none)] (by kernel_rfl) ?_
          refine l_ds 6 (.one (.d (.int .i64 0))) ?_
          refine l_nil ?_
          refine AW.blk ?_
          refine AW.loopL (S := Int) (fun s => (fun (v2815 : Int) => [(0, .one (.d (.sl (List.map TTrace.enc l_9)))), (3, .one (.ref 200001 0 0 0)), (5, .one (.d (.int .i64 v2711))), (6, .one (.d (.int .i64 v2815)))]) s) (fun s => (fun (v2815 : Int) => [(200001, .expl true 27 7 [[.d (.sl (List.map TTree.enc s_9.trees)), .d (.int .i8 s_9.offsets.e0), .d (.int .i8 s_9.offsets.e1), .d (.int .i8 s_9.offsets.e2), .d (.int .i8 s_9.offsets.e3), .d (.sl (List.map TSync.enc s_9.syncs)), .d (.int .u8 s_9.wrong)]])]) s) (fun (s : Int) N2824 => L9_3 x2806 K N2772 v2711 s N2824) (N := fun s => LoopW (fun (s : Int) N2824 => L9_3 x2806 K N2772 v2711 s N2824) s) (Lab.m 0 [(200001, some 200001)] h) (fun _ h => h) ?_
          rintro v2815 N2824 h
          have h : L9_3 x2806 K N2772 v2711 v2815 N2824 := h
          unfold L9_3 at h
          refine AW.seq ?_
          refine AW.sregL [(0, none), (1, none), (2, none), (3, none), (4, none), (5, none), (6, none), (7, none)] (by kernel_rfl) ?_
          refine l_ds 33 (.one (.d (.int .i64 v2815))) ?_
          refine l_ds 34 (.one (.d (.sl (List.map TTrace.enc l_9)))) ?_
          refine l_ds 35 (.one (.d (.int .i64 v2711))) ?_
          refine l_spec (some 36) (.iad 3 (.t 34) (.t 35)) (.one (.d (.ptr [.int .i64 x2806.id, .int .i64 x2806.weight, .sl (List.map TSpan.enc x2806.spans)])), []) (by kernel_rfl) (detA_none (d_iad_sl (enc := TTrace.enc) (k := .i64) l_9 x2806 (by kernel_rfl) (by kernel_rfl) h505 h506 rfl)) ?_
          refine l_ds 37 (.one (.d (.ptr [.sl (List.map TSpan.enc x2806.spans)]))) ?_
          refine l_ds 38 (.one (.d (.sl (List.map TSpan.enc x2806.spans)))) ?_
          refine l_spec (some 39) (.lens (.t 38)) (.one (.d (.int .i64 (x2806.spans.length : Int))), []) (by kernel_rfl) (detA_none (d_lens_sl (enc := TSpan.enc) x2806.spans (by kernel_rfl))) ?_
          refine l_ds 40 (.one (.d (.bool (decide (v2815 < (x2806.spans.length : Int)))))) ?_
          refine l_nil ?_
          refine AW.cond' (by kernel_rfl) h (fun h => ?_) (fun h => ?_)
          · refine AW.skip ?_
            refine q_fall ?_
            refine AW.seq ?_
            refine AW.blk ?_
            refine AW.sregL [(0, none), (1, none), (2, none), (3, none), (4, none), (5, none), (6, none), (7, none), (8, none), (9, none)] (by kernel_rfl) ?_
            refine l_ds 43 (.one (.d (.sl (List.map TTrace.enc l_9)))) ?_
            refine l_ds 44 (.one (.d (.int .i64 v2711))) ?_
            refine l_spec (some 45) (.iad 3 (.t 43) (.t 44)) (.one (.d (.ptr [.int .i64 x2806.id, .int .i64 x2806.weight, .sl (List.map TSpan.enc x2806.spans)])), []) (by kernel_rfl) (detA_none (d_iad_sl (enc := TTrace.enc) (k := .i64) l_9 x2806 (by kernel_rfl) (by kernel_rfl) h505 h506 rfl)) ?_
            refine l_ds 46 (.one (.d (.ptr [.sl (List.map TSpan.enc x2806.spans)]))) ?_
            refine l_ds 47 (.one (.d (.sl (List.map TSpan.enc x2806.spans)))) ?_
            refine l_ds 48 (.one (.d (.int .i64 v2815))) ?_
            obtain ⟨h540, x2831, h541, h⟩ := h
            refine l_spec (some 49) (.iad 14 (.t 47) (.t 48)) (.one (.d (.ptr [.int .i64 x2831.trace, .int .i64 x2831.id, .int .i64 x2831.parent, .int .i64 x2831.revision, .int .i64 x2831.clock, .int .i64 x2831.kind, .str x2831.service, .str x2831.version, .str x2831.operation, .int .i64 x2831.start, .int .i64 x2831.end_, .bool x2831.error, .sl (List.map TAttr.enc x2831.attrs), .sl (List.map TRef.enc x2831.links)])), []) (by kernel_rfl) (detA_none (d_iad_sl (enc := TSpan.enc) (k := .i64) x2806.spans x2831 (by kernel_rfl) (by kernel_rfl) h540 h541 rfl)) ?_
            refine l_ds 50 (.agg [.d (.int .i64 x2831.trace), .d (.int .i64 x2831.id), .d (.int .i64 x2831.parent), .d (.int .i64 x2831.revision), .d (.int .i64 x2831.clock), .d (.int .i64 x2831.kind), .d (.str x2831.service), .d (.str x2831.version), .d (.str x2831.operation), .d (.int .i64 x2831.start), .d (.int .i64 x2831.end_), .d (.bool x2831.error), .d (.sl (List.map TAttr.enc x2831.attrs)), .d (.sl (List.map TRef.enc x2831.links))]) ?_
            refine l_call ok29 en29 (some 51) [.agg [.d (.int .i64 x2831.trace), .d (.int .i64 x2831.id), .d (.int .i64 x2831.parent), .d (.int .i64 x2831.revision), .d (.int .i64 x2831.clock), .d (.int .i64 x2831.kind), .d (.str x2831.service), .d (.str x2831.version), .d (.str x2831.operation), .d (.int .i64 x2831.start), .d (.int .i64 x2831.end_), .d (.bool x2831.error), .d (.sl (List.map TAttr.enc x2831.attrs)), .d (.sl (List.map TRef.enc x2831.links))]] [false] [.agg (List.map RC.d [.int .i64 x2831.trace, .int .i64 x2831.id, .int .i64 x2831.parent, .int .i64 x2831.revision, .int .i64 x2831.clock, .int .i64 x2831.kind, .str x2831.service, .str x2831.version, .str x2831.operation, .int .i64 x2831.start, .int .i64 x2831.end_, .bool x2831.error, .sl (List.map TAttr.enc x2831.attrs), .sl (List.map TRef.enc x2831.links)])] [] (by kernel_rfl) ⟨by kernel_rfl, by kernel_rfl⟩ (by kernel_rfl) (by kernel_rfl) (by kernel_rfl) (cl29 x2831 h) ?_
            rintro hR _ _ ⟨r2832, rfl, rfl, h⟩
            refine ⟨false, (.one (.d (.bool r2832)), []), (fun hz => (by cases hz)), (ret_R hR (by kernel_rfl)), ?_⟩
            refine l_ds 52 (.one (.d (.bool (!r2832)))) ?_
            refine l_nil ?_
            refine AW.cond' (by kernel_rfl) h (fun h => ?_) (fun h => ?_)
            · refine AW.sregL [(0, none)] (by kernel_rfl) ?_
              refine l_ds 4 (.one (.d (.bool true))) ?_
              refine l_nil ?_
              refine AW.ret ?_
              refine q_bret ?_
              refine q_ret ?_
              refine q_ret ?_
              refine q_bret ?_
              refine q_bret ?_
              refine q_ret ?_
              refine q_ret ?_
              refine q_bret ?_
              refine q_ret ?_
              exact q_end [.one (.d (.bool true))] [false] [.one (.d (.bool true))] [] [] (by kernel_rfl) ⟨by kernel_rfl, by kernel_rfl⟩ (by kernel_rfl) (by kernel_rfl) (by kernel_rfl) (by kernel_rfl) (Eq.mp (by kernel_rfl) (hK true h)) (.inr rfl)
            · refine AW.skip ?_
              refine q_bfall ?_
              refine q_fall ?_
              refine AW.regL [(0, none), (1, none), (2, none)] (by kernel_rfl) ?_
              refine l_ds 41 (.one (.d (.int .i64 v2815))) ?_
              refine l_ds 42 (.one (.d (.int .i64 (w64 (v2815 + 1))))) ?_
              refine l_ds 6 (.one (.d (.int .i64 (w64 (v2815 + 1))))) ?_
              refine l_nil ?_
              refine q_fall ?_
              exact Lab.m (w64 (v2815 + 1)) [(200001, some 200001)] h
          · refine AW.exit ?_
            refine q_exit ?_
            refine q_exit ?_
            refine q_bhere ?_
            refine q_bfall ?_
            refine q_fall ?_
            refine AW.regL [(0, none), (1, none), (2, none)] (by kernel_rfl) ?_
            refine l_ds 24 (.one (.d (.int .i64 v2711))) ?_
            refine l_ds 25 (.one (.d (.int .i64 (w64 (v2711 + 1))))) ?_
            refine l_ds 5 (.one (.d (.int .i64 (w64 (v2711 + 1))))) ?_
            refine l_nil ?_
            refine q_fall ?_
            exact Lab.m (w64 (v2711 + 1)) [(200001, some 200001)] h
      · refine AW.exit ?_
        refine q_exit ?_
        refine q_exit ?_
        refine q_bhere ?_
        refine q_fall ?_
        refine AW.seqL (S := Bool) (fun s => (fun (v7910 : Bool) => [(4, .one (.d (.bool v7910)))]) s) (fun s => (fun (v7910 : Bool) => []) s) (fun s : Bool => J9_4 K s) ?_ ?_
        · refine AW.regL [(0, none), (1, none), (2, none), (3, none), (4, none), (5, none), (6, none), (7, none), (8, none), (9, none), (10, none), (11, none)] (by kernel_rfl) ?_
          refine l_ds 53 (.one (.d (.sl (List.map TTrace.enc l_9)))) ?_
          refine l_call ok30 en30 (some 54) [.one (.d (.sl (List.map TTrace.enc l_9)))] [false] [.one (.d (.sl (List.map TTrace.enc l_9)))] [] (by kernel_rfl) ⟨by kernel_rfl, by kernel_rfl⟩ (by kernel_rfl) (by kernel_rfl) (by kernel_rfl) (cl30 l_9 h) ?_
          rintro hR _ _ ⟨r7911, rfl, rfl, h⟩
          refine ⟨false, (.one (.d (.int .i64 r7911)), []), (fun hz => (by cases hz)), (ret_R hR (by kernel_rfl)), ?_⟩
          refine l_ds 55 (.one (.d (.sl (List.map TTrace.enc l_9)))) ?_
          refine l_call ok31 en31 (some 56) [.one (.d (.sl (List.map TTrace.enc l_9)))] [false] [.one (.d (.sl (List.map TTrace.enc l_9)))] [] (by kernel_rfl) ⟨by kernel_rfl, by kernel_rfl⟩ (by kernel_rfl) (by kernel_rfl) (by kernel_rfl) (cl31 l_9 h) ?_
          rintro hR _ _ ⟨r7912, rfl, rfl, h⟩
          refine ⟨false, (.one (.d (.int .i64 r7912)), []), (fun hz => (by cases hz)), (ret_R hR (by kernel_rfl)), ?_⟩
          refine l_ds 57 (.one (.d (.bool (decide (r7911 = r7912))))) ?_
          refine l_ds 58 (.one (.d (.bool (decide (r7911 = r7912))))) ?_
          refine l_split (s := 58) (by kernel_rfl) h (fun h => ?_) (fun h => ?_)
          · refine l_ds 59 (.agg [.d (.sl (List.map TTree.enc s_9.trees)), .d (.int .i8 s_9.offsets.e0), .d (.int .i8 s_9.offsets.e1), .d (.int .i8 s_9.offsets.e2), .d (.int .i8 s_9.offsets.e3), .d (.sl (List.map TSync.enc s_9.syncs)), .d (.int .u8 s_9.wrong)]) ?_
            refine l_call ok17 en17 (some 60) [.agg [.d (.sl (List.map TTree.enc s_9.trees)), .d (.int .i8 s_9.offsets.e0), .d (.int .i8 s_9.offsets.e1), .d (.int .i8 s_9.offsets.e2), .d (.int .i8 s_9.offsets.e3), .d (.sl (List.map TSync.enc s_9.syncs)), .d (.int .u8 s_9.wrong)]] [false] [.agg (List.map RC.d [.sl (List.map TTree.enc s_9.trees), .int .i8 s_9.offsets.e0, .int .i8 s_9.offsets.e1, .int .i8 s_9.offsets.e2, .int .i8 s_9.offsets.e3, .sl (List.map TSync.enc s_9.syncs), .int .u8 s_9.wrong])] [] (by kernel_rfl) ⟨by kernel_rfl, by kernel_rfl⟩ (by kernel_rfl) (by kernel_rfl) (by kernel_rfl) (cl17 s_9 h) ?_
            rintro hR _ _ ⟨r7913, rfl, rfl, h⟩
            refine ⟨false, (.one (.view 60 1 0 ((List.map TTrace.enc r7913).length)), [(60, 1, .row true 53 3 (dmm (List.map TTrace.enc r7913)))]), (fun hz => (by cases hz)), (ret_R hR (by kernel_rfl)), ?_⟩
            refine l_call ok30 en30 (some 61) [.one (.view 60 1 0 ((List.map TTrace.enc r7913).length))] [false] [.one (.d (.sl (List.map TTrace.enc r7913)))] [60] (by kernel_rfl) (ps_plain (pv_one (pf_view (E := 53) (sz := 3) (l := true) (List.map TTrace.enc r7913) (by kernel_rfl) (by kernel_rfl) rfl)) ps_nil) (by kernel_rfl) (by kernel_rfl) (by kernel_rfl) (cl30 r7913 h) ?_
            rintro hR _ _ ⟨r7914, rfl, rfl, h⟩
            refine ⟨true, (.one (.d (.int .i64 r7914)), []), (fun _ => (by kernel_rfl)), (by kernel_rfl), ?_⟩
            refine l_ds 62 (.one (.d (.bool (decide (r7914 = 0))))) ?_
            refine l_ds 63 (.one (.d (.bool (decide (r7914 = 0))))) ?_
            refine l_ds 4 (.one (.d (.bool (decide (r7914 = 0))))) ?_
            refine l_nil ?_
            refine q_fall ?_
            exact Lab.m (decide (r7914 = 0)) [] h
          · refine l_ds 59 (.tup []) ?_
            refine l_skip (some 60) (by kernel_rfl) (by kernel_rfl) (by kernel_rfl) ?_
            refine l_skip (some 61) (by kernel_rfl) (by kernel_rfl) (by kernel_rfl) ?_
            refine l_ds 62 (.tup []) ?_
            refine l_ds 63 (.one (.d (.bool false))) ?_
            refine l_ds 4 (.one (.d (.bool false))) ?_
            refine l_nil ?_
            refine q_fall ?_
            exact Lab.m false [] h
        · rintro v7910 h
          have h : J9_4 K v7910 := h
          unfold J9_4 at h
          refine AW.ret ?_
          exact q_end [.one (.d (.bool v7910))] [false] [.one (.d (.bool v7910))] [] [] (by kernel_rfl) ⟨by kernel_rfl, by kernel_rfl⟩ (by kernel_rfl) (by kernel_rfl) (by kernel_rfl) (by kernel_rfl) (Eq.mp (by kernel_rfl) (hK v7910 h)) (.inr rfl)
end Go.Proofs.Ytnpdeecoejabgaa
