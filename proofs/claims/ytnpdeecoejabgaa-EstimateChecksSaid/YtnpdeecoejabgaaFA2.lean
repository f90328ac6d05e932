/- Go functions: their shallow forms, and that they keep their contracts. Printed by a program of mine (gs.py). -/
import Derived.Test.YtnpdeecoejabgaaFA1
set_option maxRecDepth 100000
set_option linter.unusedVariables false
set_option linter.unusedSimpArgs false
namespace Go.Proofs.Ytnpdeecoejabgaa
open Go Go.RowKit

def r19_0 : List AR := [⟨some 3, .box 50 true 4 (.t 0), [], none⟩,
  ⟨some 6, .mov (.c (.int .i64 0)), [], none⟩,
  ⟨some 7, .mov (.c (.int .i64 0)), [1], none⟩]
def r19_1 : List AR := [⟨some 8, .mov (.c (.int .i64 0)), [], none⟩,
  ⟨some 9, .mov (.c (.int .i64 0)), [0, 0], none⟩]
def r19_2 : List AR := [⟨some 18, .fad (.t 3) 0, [], none⟩,
  ⟨some 19, .ld false 1 (.t 18), [0], none⟩,
  ⟨some 20, .lens (.t 19), [1], none⟩,
  ⟨some 21, .mov (.c (.int .i64 0)), [], none⟩]
def r19_3 : List AR := [⟨some 22, .bin .lss (.t 21) (.t 20), [], none⟩]
def r19_4 : List AR := [⟨some 23, .iad 3 (.t 19) (.t 21), [], none⟩,
  ⟨some 24, .ld true 3 (.t 23), [0], none⟩,
  ⟨some 11, .alloc 53 true [.int .i64 0, .int .i64 0, .nils], [], none⟩,
  ⟨none, .st 3 (.t 11) (.t 24), [2, 1, 0, 1, 2], none⟩]
def r19_5 : List AR := [⟨some 25, .fad (.t 11) 2, [], none⟩,
  ⟨some 26, .ld false 1 (.t 25), [0], none⟩,
  ⟨some 27, .lens (.t 26), [1], none⟩,
  ⟨some 28, .mov (.c (.int .i64 0)), [], none⟩]
def r19_6 : List AR := [⟨some 29, .bin .lss (.t 28) (.t 27), [], none⟩]
def r19_7 : List AR := [⟨some 30, .iad 14 (.t 26) (.t 28), [], none⟩,
  ⟨some 31, .ld true 14 (.t 30), [0], none⟩,
  ⟨some 13, .alloc 58 true [.int .i64 0, .int .i64 0, .int .i64 0, .int .i64 0, .int .i64 0, .int .i64 0, .str ⟨#[]⟩, .str ⟨#[]⟩, .str ⟨#[]⟩, .int .i64 0, .int .i64 0, .bool false, .nils, .nils], [], none⟩,
  ⟨none, .st 14 (.t 13) (.t 31), [2, 1, 0, 1, 2], none⟩]
def r19_8 : List AR := [⟨some 32, .fad (.t 11) 0, [], none⟩,
  ⟨some 33, .ld false 1 (.t 32), [0], none⟩,
  ⟨some 34, .call 18 [.t 33], [1], none⟩,
  ⟨some 35, .mov (.t 1), [], none⟩,
  ⟨some 36, .bin .eql (.t 34) (.t 35), [2, 3], none⟩,
  ⟨some 37, .mov (.t 36), [4, 2], none⟩,
  ⟨some 38, .fad (.t 13) 6, [5], some (37, true)⟩,
  ⟨some 39, .ld false 1 (.t 38), [6, 5], some (37, true)⟩,
  ⟨some 40, .mov (.t 2), [5], some (37, true)⟩,
  ⟨some 41, .bin .eql (.t 39) (.t 40), [7, 8, 5], some (37, true)⟩,
  ⟨some 42, .pick (.t 37) (.t 41) (.c (.bool false)), [5, 9], none⟩]
def r19_9 : List AR := [⟨some 43, .mov (.t 8), [], none⟩,
  ⟨some 44, .bin .add (.t 43) (.c (.int .i64 1)), [0], none⟩,
  ⟨some 8, .mov (.t 44), [1, 0, 1], none⟩]
def r19_10 : List AR := [⟨some 45, .bin .add (.t 28) (.c (.int .i64 1)), [], none⟩,
  ⟨some 28, .mov (.t 45), [0], none⟩]
def r19_11 : List AR := [⟨some 46, .bin .add (.t 21) (.c (.int .i64 1)), [], none⟩,
  ⟨some 21, .mov (.t 46), [0], none⟩]
def r19_12 : List AR := [⟨some 47, .fad (.t 3) 2, [], none⟩,
  ⟨some 48, .ld false 1 (.t 47), [0], none⟩,
  ⟨some 49, .lens (.t 48), [1], none⟩,
  ⟨some 50, .mov (.c (.int .i64 0)), [], none⟩]
def r19_13 : List AR := [⟨some 51, .bin .lss (.t 50) (.t 49), [], none⟩]
def r19_14 : List AR := [⟨some 52, .iad 4 (.t 48) (.t 50), [], none⟩,
  ⟨some 53, .ld true 4 (.t 52), [0], none⟩,
  ⟨some 15, .alloc 60 true [.int .i64 0, .str ⟨#[]⟩, .int .i64 0, .int .i64 0], [], none⟩,
  ⟨none, .st 4 (.t 15) (.t 53), [2, 1, 0, 1, 2], none⟩]
def r19_15 : List AR := [⟨some 54, .fad (.t 15) 0, [], none⟩,
  ⟨some 55, .ld false 1 (.t 54), [0], none⟩,
  ⟨some 56, .mov (.t 1), [], none⟩,
  ⟨some 57, .bin .eql (.t 55) (.t 56), [1, 2], none⟩,
  ⟨some 58, .mov (.t 57), [3], none⟩,
  ⟨some 59, .fad (.t 15) 1, [4], some (58, true)⟩,
  ⟨some 60, .ld false 1 (.t 59), [5, 4], some (58, true)⟩,
  ⟨some 61, .mov (.t 2), [4], some (58, true)⟩,
  ⟨some 62, .bin .eql (.t 60) (.t 61), [6, 7, 4], some (58, true)⟩,
  ⟨some 63, .pick (.t 58) (.t 62) (.c (.bool false)), [4, 8], none⟩]
def r19_16 : List AR := [⟨some 64, .mov (.t 8), [], none⟩,
  ⟨some 65, .fad (.t 15) 2, [], none⟩,
  ⟨some 66, .ld false 1 (.t 65), [1], none⟩,
  ⟨some 67, .bin .add (.t 64) (.t 66), [0, 2], none⟩,
  ⟨some 8, .mov (.t 67), [3, 0, 1, 2, 3], none⟩]
def r19_17 : List AR := [⟨some 68, .bin .add (.t 50) (.c (.int .i64 1)), [], none⟩,
  ⟨some 50, .mov (.t 68), [0], none⟩]
def r19_18 : List AR := [⟨some 69, .fad (.t 3) 3, [], none⟩,
  ⟨some 70, .ld false 1 (.t 69), [0], none⟩,
  ⟨some 71, .lens (.t 70), [1], none⟩,
  ⟨some 72, .mov (.c (.int .i64 0)), [], none⟩]
def r19_19 : List AR := [⟨some 73, .bin .lss (.t 72) (.t 71), [], none⟩]
def r19_20 : List AR := [⟨some 74, .iad 2 (.t 70) (.t 72), [], none⟩,
  ⟨some 75, .ld true 2 (.t 74), [0], none⟩,
  ⟨some 17, .alloc 62 true [.int .i64 0, .int .i64 0], [], none⟩,
  ⟨none, .st 2 (.t 17) (.t 75), [2, 1, 0, 1, 2], none⟩]
def r19_21 : List AR := [⟨some 76, .fad (.t 17) 0, [], none⟩,
  ⟨some 77, .ld false 1 (.t 76), [0], none⟩,
  ⟨some 78, .mov (.t 1), [], none⟩,
  ⟨some 79, .bin .eql (.t 77) (.t 78), [1, 2], none⟩]
def r19_22 : List AR := [⟨some 80, .mov (.t 9), [], none⟩,
  ⟨some 81, .fad (.t 17) 1, [], none⟩,
  ⟨some 82, .ld false 1 (.t 81), [1], none⟩,
  ⟨some 83, .bin .add (.t 80) (.t 82), [0, 2], none⟩,
  ⟨some 9, .mov (.t 83), [3, 0, 1, 2, 3], none⟩]
def r19_23 : List AR := [⟨some 84, .bin .add (.t 72) (.c (.int .i64 1)), [], none⟩,
  ⟨some 72, .mov (.t 84), [0], none⟩]
def r19_24 : List AR := [⟨some 85, .mov (.t 8), [], none⟩,
  ⟨some 86, .mov (.t 9), [], none⟩,
  ⟨some 87, .bin .sub (.t 85) (.t 86), [0, 1], none⟩,
  ⟨some 88, .mm true [.c (.int .i64 0), .t 87], [2], none⟩,
  ⟨some 89, .mov (.t 8), [], none⟩,
  ⟨some 90, .mov (.t 9), [], none⟩,
  ⟨some 91, .bin .add (.t 89) (.t 90), [4, 5], none⟩,
  ⟨some 6, .mov (.t 88), [3, 0, 1, 2, 3], none⟩,
  ⟨some 7, .mov (.t 91), [6, 7, 0, 1, 2, 3, 4, 5, 6, 7], none⟩]
def c19 : ACode := .seq (.reg r19_0 false) (.seq (.reg r19_1 false) (.seq (.seq (.reg r19_2 false) (.blk 0 (.loop (.seq (.reg r19_3 false) (.seq (.cond (.t 22) (.skip) (.exit 0)) (.seq (.blk 1 (.seq (.reg r19_4 false) (.seq (.reg r19_5 false) (.blk 2 (.loop (.seq (.reg r19_6 false) (.seq (.cond (.t 29) (.skip) (.exit 2)) (.seq (.blk 3 (.seq (.reg r19_7 false) (.seq (.reg r19_8 false) (.cond (.t 42) (.reg r19_9 false) (.skip))))) (.reg r19_10 false))))))))) (.reg r19_11 false))))))) (.seq (.seq (.reg r19_12 false) (.blk 4 (.loop (.seq (.reg r19_13 false) (.seq (.cond (.t 51) (.skip) (.exit 4)) (.seq (.blk 5 (.seq (.reg r19_14 false) (.seq (.reg r19_15 false) (.cond (.t 63) (.reg r19_16 false) (.skip))))) (.reg r19_17 false))))))) (.seq (.seq (.reg r19_18 false) (.blk 6 (.loop (.seq (.reg r19_19 false) (.seq (.cond (.t 73) (.skip) (.exit 6)) (.seq (.blk 7 (.seq (.reg r19_20 false) (.seq (.reg r19_21 false) (.cond (.t 79) (.reg r19_22 false) (.skip))))) (.reg r19_23 false))))))) (.seq (.reg r19_24 false) (.ret))))))
theorem body19 : Try.f19.body.map (comp Try.prog 92) = some c19 := by kernel_rfl
theorem res19 : allSome (Try.f19.results.toList.map (compRes Try.prog)) = some [.s 6, .s 7] := by kernel_rfl
theorem cok19 {S : FSpec} (h : ∀ args K, S args K → args.all argOk = true ∧ args.length ≤ 92 ∧ AW Try.prog 92 (some ownP) c19 (initS args) (retPost [.s 6, .s 7] args K)) : COK Try.prog 19 S := of_body Try.func19 Try.ntmps19 body19 res19 h

def J19_3 (N2225 : (Int × Int) → Prop) (v2205 : Int) (v2238 : Int) : Prop :=
  N2225 (v2238, (w64 (v2205 + 1)))

def J19_4 (N2225 : (Int × Int) → Prop) (v2205 : Int) (v2204 : Int) (v2243 : Bool) : Prop :=
  Cond v2243 (J19_3 N2225 v2205 (w64 (v2204 + 1))) (J19_3 N2225 v2205 v2204)

def L19_2 (x2184 : TTrace) (partition_19 : Int) (service_19 : ByteArray) (N2120 : (Int × Int) → Prop) (v1995 : Int) (v2204 : Int) (v2205 : Int) (N2225 : (Int × Int) → Prop) : Prop :=
  Cond (decide (v2205 < (x2184.spans.length : Int))) (Idx x2184.spans v2205 fun x2240 => W18 x2184.id fun r2244 => Cond (decide (r2244 = partition_19)) (J19_4 N2225 v2205 v2204 (decide (x2240.service = service_19))) (J19_4 N2225 v2205 v2204 false)) (N2120 (v2204, (w64 (v1995 + 1))))

def J19_6 (N2300 : (Int × Int) → Prop) (v2289 : Int) (v2307 : Int) : Prop :=
  N2300 (v2307, (w64 (v2289 + 1)))

def J19_7 (N2300 : (Int × Int) → Prop) (v2289 : Int) (v2288 : Int) (x2309 : TRemoved) (v2310 : Bool) : Prop :=
  Cond v2310 (J19_6 N2300 v2289 (w64 (v2288 + x2309.spans))) (J19_6 N2300 v2289 v2288)

def J19_9 (N2351 : (Int × Int) → Prop) (v2343 : Int) (v2356 : Int) : Prop :=
  N2351 (v2356, (w64 (v2343 + 1)))

def L19_8 (r_0_19 : TRetained) (partition_19 : Int) (K : (Int × Int) → Prop) (v2288 : Int) (v2342 : Int) (v2343 : Int) (N2351 : (Int × Int) → Prop) : Prop :=
  Cond (decide (v2343 < (r_0_19.late.length : Int))) (Idx r_0_19.late v2343 fun x2358 => Cond (decide (x2358.partition = partition_19)) (J19_9 N2351 v2343 (w64 (v2342 + x2358.spans))) (J19_9 N2351 v2343 v2342)) (K ((if (w64 (v2288 - v2342)) > 0 then (w64 (v2288 - v2342)) else 0), (w64 (v2288 + v2342))))

def L19_5 (r_0_19 : TRetained) (partition_19 : Int) (service_19 : ByteArray) (K : (Int × Int) → Prop) (v2288 : Int) (v2289 : Int) (N2300 : (Int × Int) → Prop) : Prop :=
  Cond (decide (v2289 < (r_0_19.removed.length : Int))) (Idx r_0_19.removed v2289 fun x2309 => Cond (decide (x2309.partition = partition_19)) (J19_7 N2300 v2289 v2288 x2309 (decide (x2309.service = service_19))) (J19_7 N2300 v2289 v2288 x2309 false)) (LoopW (fun (s : (Int × Int)) N2351 => L19_8 r_0_19 partition_19 K v2288 s.1 s.2 N2351) (0, 0))

def L19_1 (r_0_19 : TRetained) (partition_19 : Int) (service_19 : ByteArray) (K : (Int × Int) → Prop) (v1994 : Int) (v1995 : Int) (N2120 : (Int × Int) → Prop) : Prop :=
  Cond (decide (v1995 < (r_0_19.traces.length : Int))) (Idx r_0_19.traces v1995 fun x2184 => LoopW (fun (s : (Int × Int)) N2225 => L19_2 x2184 partition_19 service_19 N2120 v1995 s.1 s.2 N2225) (v1994, 0)) (LoopW (fun (s : (Int × Int)) N2300 => L19_5 r_0_19 partition_19 service_19 K s.1 s.2 N2300) (v1994, 0))

/-- sleuth/estimate.Count -/
def W19 (r_0_19 : TRetained) (partition_19 : Int) (service_19 : ByteArray) (K : (Int × Int) → Prop) : Prop :=
  LoopW (fun (s : (Int × Int)) N2120 => L19_1 r_0_19 partition_19 service_19 K s.1 s.2 N2120) (0, 0)

def S19 : FSpec := fun args K => ∃ (r_0_19 : TRetained), ∃ (partition_19 : Int), ∃ (service_19 : ByteArray), ∃ (Kr : (Int × Int) → Prop), args = [.agg (List.map RC.d (TRetained.enc r_0_19)), .one (.d (.int .i64 partition_19)), .one (.d (.str service_19))] ∧ W19 r_0_19 partition_19 service_19 Kr ∧ ∀ r, Kr r → K (.tup [.one (.d (.int .i64 r.1)), .one (.d (.int .i64 r.2))]) []

theorem en19 : enters Try.prog 19 = true := by unfold enters; rw [Try.func19]; rfl
theorem cl19 (r_0_19 : TRetained) (partition_19 : Int) (service_19 : ByteArray) {Kr : (Int × Int) → Prop} (h : W19 r_0_19 partition_19 service_19 Kr) : S19 [.agg (List.map RC.d (TRetained.enc r_0_19)), .one (.d (.int .i64 partition_19)), .one (.d (.str service_19))] (fun rv rows => ∃ r, rv = (.tup [.one (.d (.int .i64 r.1)), .one (.d (.int .i64 r.2))]) ∧ rows = [] ∧ Kr r) := ⟨r_0_19, partition_19, service_19, Kr, rfl, h, fun r hr => ⟨r, rfl, rfl, hr⟩⟩

theorem ok19 : COK Try.prog 19 S19 := by
  refine cok19 fun args K0 hS => ?_
  obtain ⟨r_0_19, partition_19, service_19, K, rfl, h, hK⟩ := hS
  refine ⟨by kernel_rfl, by simp, ?_⟩
  unfold W19 at h
  refine AW.sregL [(0, none), (1, none), (2, none)] (by kernel_rfl) ?_
  refine l_det (some 3) (.one (.ref 3 1 0 0), [(3, 1, .row true 50 4 [[.d (.sl (List.map TTrace.enc r_0_19.traces)), .d (.sl (List.map TExchange.enc r_0_19.exchanges)), .d (.sl (List.map TRemoved.enc r_0_19.removed)), .d (.sl (List.map TLate.enc r_0_19.late))]])]) (by kernel_rfl) ?_
  refine l_ds 6 (.one (.d (.int .i64 0))) ?_
  refine l_ds 7 (.one (.d (.int .i64 0))) ?_
  refine l_nil ?_
  refine AW.sregL [(0, none), (1, none)] (by kernel_rfl) ?_
  refine l_ds 8 (.one (.d (.int .i64 0))) ?_
  refine l_ds 9 (.one (.d (.int .i64 0))) ?_
  refine l_nil ?_
  refine AW.seq ?_
  refine AW.sregL [(0, none), (1, none), (2, none), (3, none)] (by kernel_rfl) ?_
  refine l_ds 18 (.one (.ref 3 1 0 0)) ?_
  refine l_ds 19 (.one (.d (.sl (List.map TTrace.enc r_0_19.traces)))) ?_
  refine l_spec (some 20) (.lens (.t 19)) (.one (.d (.int .i64 (r_0_19.traces.length : Int))), []) (by kernel_rfl) (detA_none (d_lens_sl (enc := TTrace.enc) r_0_19.traces (by kernel_rfl))) ?_
  refine l_ds 21 (.one (.d (.int .i64 0))) ?_
  refine l_nil ?_
  refine AW.blk ?_
  refine AW.loopL (S := (Int × Int)) (fun s => (fun (v1994 : Int) (v1995 : Int) => [(1, .one (.d (.int .i64 partition_19))), (2, .one (.d (.str service_19))), (3, .one (.ref 200001 0 0 0)), (8, .one (.d (.int .i64 v1994))), (9, .one (.d (.int .i64 0))), (19, .one (.d (.sl (List.map TTrace.enc r_0_19.traces)))), (20, .one (.d (.int .i64 (r_0_19.traces.length : Int)))), (21, .one (.d (.int .i64 v1995)))]) s.1 s.2) (fun s => (fun (v1994 : Int) (v1995 : Int) => [(200001, .expl true 50 4 [[.d (.sl (List.map TTrace.enc r_0_19.traces)), .d (.sl (List.map TExchange.enc r_0_19.exchanges)), .d (.sl (List.map TRemoved.enc r_0_19.removed)), .d (.sl (List.map TLate.enc r_0_19.late))]])]) s.1 s.2) (fun (s : (Int × Int)) N2120 => L19_1 r_0_19 partition_19 service_19 K s.1 s.2 N2120) (N := fun s => LoopW (fun (s : (Int × Int)) N2120 => L19_1 r_0_19 partition_19 service_19 K s.1 s.2 N2120) s) (Lab.m (0, 0) [(200001, some 3)] h) (fun _ h => h) ?_
  rintro ⟨v1994, v1995⟩ N2120 h
  have h : L19_1 r_0_19 partition_19 service_19 K v1994 v1995 N2120 := h
  unfold L19_1 at h
  refine AW.sregL [(0, none)] (by kernel_rfl) ?_
  refine l_ds 22 (.one (.d (.bool (decide (v1995 < (r_0_19.traces.length : Int)))))) ?_
  refine l_nil ?_
  refine AW.seq ?_
  refine AW.cond' (by kernel_rfl) h (fun h => ?_) (fun h => ?_)
  · refine AW.skip ?_
    refine q_fall ?_
    refine AW.seq ?_
    refine AW.blk ?_
    refine AW.sregL [(0, none), (1, none), (2, none), (3, none)] (by kernel_rfl) ?_
    obtain ⟨h740, x2184, h741, h⟩ := h
    refine l_spec (some 23) (.iad 3 (.t 19) (.t 21)) (.one (.d (.ptr [.int .i64 x2184.id, .int .i64 x2184.weight, .sl (List.map TSpan.enc x2184.spans)])), []) (by kernel_rfl) (detA_none (d_iad_sl (enc := TTrace.enc) (k := .i64) r_0_19.traces x2184 (by kernel_rfl) (by kernel_rfl) h740 h741 rfl)) ?_
    refine l_ds 24 (.agg [.d (.int .i64 x2184.id), .d (.int .i64 x2184.weight), .d (.sl (List.map TSpan.enc x2184.spans))]) ?_
    refine l_det (some 11) (.one (.ref 11 1 0 0), [(11, 1, .row true 53 3 [[.d (.int .i64 0), .d (.int .i64 0), .nils]])]) (by kernel_rfl) ?_
    refine l_det none (.tup [], [(11, 1, .row true 53 3 [[.d (.int .i64 x2184.id), .d (.int .i64 x2184.weight), .d (.sl (List.map TSpan.enc x2184.spans))]])]) (by kernel_rfl) ?_
    refine l_nil ?_
    refine AW.sregL [(0, none), (1, none), (2, none), (3, none)] (by kernel_rfl) ?_
    refine l_ds 25 (.one (.ref 11 1 0 2)) ?_
    refine l_ds 26 (.one (.d (.sl (List.map TSpan.enc x2184.spans)))) ?_
    refine l_spec (some 27) (.lens (.t 26)) (.one (.d (.int .i64 (x2184.spans.length : Int))), []) (by kernel_rfl) (detA_none (d_lens_sl (enc := TSpan.enc) x2184.spans (by kernel_rfl))) ?_
    refine l_ds 28 (.one (.d (.int .i64 0))) ?_
    refine l_nil ?_
    refine AW.blk ?_
    refine AW.loopL (S := (Int × Int)) (fun s => (fun (v2204 : Int) (v2205 : Int) => [(1, .one (.d (.int .i64 partition_19))), (2, .one (.d (.str service_19))), (3, .one (.ref 200001 0 0 0)), (8, .one (.d (.int .i64 v2204))), (9, .one (.d (.int .i64 0))), (11, .one (.ref 200002 0 0 0)), (19, .one (.d (.sl (List.map TTrace.enc r_0_19.traces)))), (20, .one (.d (.int .i64 (r_0_19.traces.length : Int)))), (21, .one (.d (.int .i64 v1995))), (26, .one (.d (.sl (List.map TSpan.enc x2184.spans)))), (27, .one (.d (.int .i64 (x2184.spans.length : Int)))), (28, .one (.d (.int .i64 v2205)))]) s.1 s.2) (fun s => (fun (v2204 : Int) (v2205 : Int) => [(200001, .expl true 50 4 [[.d (.sl (List.map TTrace.enc r_0_19.traces)), .d (.sl (List.map TExchange.enc r_0_19.exchanges)), .d (.sl (List.map TRemoved.enc r_0_19.removed)), .d (.sl (List.map TLate.enc r_0_19.late))]]), (200002, .expl true 53 3 [[.d (.int .i64 x2184.id), .d (.int .i64 x2184.weight), .d (.sl (List.map TSpan.enc x2184.spans))]])]) s.1 s.2) (fun (s : (Int × Int)) N2225 => L19_2 x2184 partition_19 service_19 N2120 v1995 s.1 s.2 N2225) (N := fun s => LoopW (fun (s : (Int × Int)) N2225 => L19_2 x2184 partition_19 service_19 N2120 v1995 s.1 s.2 N2225) s) (Lab.m (v1994, 0) [(200001, some 200001), (200002, some 11)] h) (fun _ h => h) ?_
    rintro ⟨v2204, v2205⟩ N2225 h
    have h : L19_2 x2184 partition_19 service_19 N2120 v1995 v2204 v2205 N2225 := h
    unfold L19_2 at h
    refine AW.sregL [(0, none)] (by kernel_rfl) ?_
    refine l_ds 29 (.one (.d (.bool (decide (v2205 < (x2184.spans.length : Int)))))) ?_
    refine l_nil ?_
    refine AW.seq ?_
    refine AW.cond' (by kernel_rfl) h (fun h => ?_) (fun h => ?_)
    · refine AW.skip ?_
      refine q_fall ?_
      refine AW.seqL (S := Int) (fun s => (fun (v2238 : Int) => [(1, .one (.d (.int .i64 partition_19))), (2, .one (.d (.str service_19))), (3, .one (.ref 200001 0 0 0)), (8, .one (.d (.int .i64 v2238))), (9, .one (.d (.int .i64 0))), (11, .one (.ref 200002 0 0 0)), (19, .one (.d (.sl (List.map TTrace.enc r_0_19.traces)))), (20, .one (.d (.int .i64 (r_0_19.traces.length : Int)))), (21, .one (.d (.int .i64 v1995))), (26, .one (.d (.sl (List.map TSpan.enc x2184.spans)))), (27, .one (.d (.int .i64 (x2184.spans.length : Int)))), (28, .one (.d (.int .i64 v2205)))]) s) (fun s => (fun (v2238 : Int) => [(200001, .expl true 50 4 [[.d (.sl (List.map TTrace.enc r_0_19.traces)), .d (.sl (List.map TExchange.enc r_0_19.exchanges)), .d (.sl (List.map TRemoved.enc r_0_19.removed)), .d (.sl (List.map TLate.enc r_0_19.late))]]), (200002, .expl true 53 3 [[.d (.int .i64 x2184.id), .d (.int .i64 x2184.weight), .d (.sl (List.map TSpan.enc x2184.spans))]])]) s) (fun s : Int => J19_3 N2225 v2205 s) ?_ ?_
      · refine AW.blk ?_
        refine AW.sregL [(0, none), (1, none), (2, none), (3, none)] (by kernel_rfl) ?_
        obtain ⟨h800, x2240, h801, h⟩ := h
        refine l_spec (some 30) (.iad 14 (.t 26) (.t 28)) (.one (.d (.ptr [.int .i64 x2240.trace, .int .i64 x2240.id, .int .i64 x2240.parent, .int .i64 x2240.revision, .int .i64 x2240.clock, .int .i64 x2240.kind, .str x2240.service, .str x2240.version, .str x2240.operation, .int .i64 x2240.start, .int .i64 x2240.end_, .bool x2240.error, .sl (List.map TAttr.enc x2240.attrs), .sl (List.map TRef.enc x2240.links)])), []) (by kernel_rfl) (detA_none (d_iad_sl (enc := TSpan.enc) (k := .i64) x2184.spans x2240 (by kernel_rfl) (by kernel_rfl) h800 h801 rfl)) ?_
        refine l_ds 31 (.agg [.d (.int .i64 x2240.trace), .d (.int .i64 x2240.id), .d (.int .i64 x2240.parent), .d (.int .i64 x2240.revision), .d (.int .i64 x2240.clock), .d (.int .i64 x2240.kind), .d (.str x2240.service), .d (.str x2240.version), .d (.str x2240.operation), .d (.int .i64 x2240.start), .d (.int .i64 x2240.end_), .d (.bool x2240.error), .d (.sl (List.map TAttr.enc x2240.attrs)), .d (.sl (List.map TRef.enc x2240.links))]) ?_
        refine l_det (some 13) (.one (.ref 13 1 0 0), [(13, 1, .row true 58 14 [[.d (.int .i64 0), .d (.int .i64 0), .d (.int .i64 0), .d (.int .i64 0), .d (.int .i64 0), .d (.int .i64 0), .d (.str (⟨#[]⟩ : ByteArray)), .d (.str (⟨#[]⟩ : ByteArray)), .d (.str (⟨#[]⟩ : ByteArray)), .d (.int .i64 0), .d (.int .i64 0), .d (.bool false), .nils, .nils]])]) (by kernel_rfl) ?_
        refine l_det none (.tup [], [(13, 1, .row true 58 14 [[.d (.int .i64 x2240.trace), .d (.int .i64 x2240.id), .d (.int .i64 x2240.parent), .d (.int .i64 x2240.revision), .d (.int .i64 x2240.clock), .d (.int .i64 x2240.kind), .d (.str x2240.service), .d (.str x2240.version), .d (.str x2240.operation), .d (.int .i64 x2240.start), .d (.int .i64 x2240.end_), .d (.bool x2240.error), .d (.sl (List.map TAttr.enc x2240.attrs)), .d (.sl (List.map TRef.enc x2240.links))]])]) (by kernel_rfl) ?_
        refine l_nil ?_
        refine AW.seqL (S := Bool) (fun s => (fun (v2243 : Bool) => [(1, .one (.d (.int .i64 partition_19))), (2, .one (.d (.str service_19))), (3, .one (.ref 200001 0 0 0)), (8, .one (.d (.int .i64 v2204))), (9, .one (.d (.int .i64 0))), (11, .one (.ref 200002 0 0 0)), (19, .one (.d (.sl (List.map TTrace.enc r_0_19.traces)))), (20, .one (.d (.int .i64 (r_0_19.traces.length : Int)))), (21, .one (.d (.int .i64 v1995))), (26, .one (.d (.sl (List.map TSpan.enc x2184.spans)))), (27, .one (.d (.int .i64 (x2184.spans.length : Int)))), (28, .one (.d (.int .i64 v2205))), (42, .one (.d (.bool v2243)))]) s) (fun s => (fun (v2243 : Bool) => [(200001, .expl true 50 4 [[.d (.sl (List.map TTrace.enc r_0_19.traces)), .d (.sl (List.map TExchange.enc r_0_19.exchanges)), .d (.sl (List.map TRemoved.enc r_0_19.removed)), .d (.sl (List.map TLate.enc r_0_19.late))]]), (200002, .expl true 53 3 [[.d (.int .i64 x2184.id), .d (.int .i64 x2184.weight), .d (.sl (List.map TSpan.enc x2184.spans))]])]) s) (fun s : Bool => J19_4 N2225 v2205 v2204 s) ?_ ?_
        · refine AW.regL [(0, none), (1, none), (2, none), (3, none), (4, none), (5, none), (6, none), (7, none), (8, none), (9, none), (10, none)] (by kernel_rfl) ?_
          refine l_ds 32 (.one (.ref 200002 0 0 0)) ?_
          refine l_ds 33 (.one (.d (.int .i64 x2184.id))) ?_
          refine l_call ok18 en18 (some 34) [.one (.d (.int .i64 x2184.id))] [false] [.one (.d (.int .i64 x2184.id))] [] (by kernel_rfl) ⟨by kernel_rfl, by kernel_rfl⟩ (by kernel_rfl) (by kernel_rfl) (by kernel_rfl) (cl18 x2184.id h) ?_
          rintro hR _ _ ⟨r2244, rfl, rfl, h⟩
          refine ⟨false, (.one (.d (.int .i64 r2244)), []), (fun hz => (by cases hz)), (ret_R hR (by kernel_rfl)), ?_⟩
          refine l_ds 35 (.one (.d (.int .i64 partition_19))) ?_
          refine l_ds 36 (.one (.d (.bool (decide (r2244 = partition_19))))) ?_
          refine l_ds 37 (.one (.d (.bool (decide (r2244 = partition_19))))) ?_
          refine l_split (s := 37) (by kernel_rfl) h (fun h => ?_) (fun h => ?_)
          · refine l_ds 38 (.one (.ref 13 1 0 6)) ?_
            refine l_ds 39 (.one (.d (.str x2240.service))) ?_
            refine l_ds 40 (.one (.d (.str service_19))) ?_
            refine l_ds 41 (.one (.d (.bool (decide (x2240.service = service_19))))) ?_
            refine l_ds 42 (.one (.d (.bool (decide (x2240.service = service_19))))) ?_
            refine l_nil ?_
            refine q_fall ?_
            exact Lab.m (decide (x2240.service = service_19)) [(200001, some 200001), (200002, some 200002)] h
          · refine l_ds 38 (.tup []) ?_
            refine l_ds 39 (.tup []) ?_
            refine l_ds 40 (.tup []) ?_
            refine l_ds 41 (.tup []) ?_
            refine l_ds 42 (.one (.d (.bool false))) ?_
            refine l_nil ?_
            refine q_fall ?_
            exact Lab.m false [(200001, some 200001), (200002, some 200002)] h
        · rintro v2243 h
          have h : J19_4 N2225 v2205 v2204 v2243 := h
          unfold J19_4 at h
          refine AW.cond' (by kernel_rfl) h (fun h => ?_) (fun h => ?_)
          · refine AW.regL [(0, none), (1, none), (2, none)] (by kernel_rfl) ?_
            refine l_ds 43 (.one (.d (.int .i64 v2204))) ?_
            refine l_ds 44 (.one (.d (.int .i64 (w64 (v2204 + 1))))) ?_
            refine l_ds 8 (.one (.d (.int .i64 (w64 (v2204 + 1))))) ?_
            refine l_nil ?_
            refine q_bfall ?_
            refine q_fall ?_
            exact Lab.m (w64 (v2204 + 1)) [(200001, some 200001), (200002, some 200002)] h
          · refine AW.skip ?_
            refine q_bfall ?_
            refine q_fall ?_
            exact Lab.m v2204 [(200001, some 200001), (200002, some 200002)] h
      · rintro v2238 h
        have h : J19_3 N2225 v2205 v2238 := h
        unfold J19_3 at h
        refine AW.regL [(0, none), (1, none)] (by kernel_rfl) ?_
        refine l_ds 45 (.one (.d (.int .i64 (w64 (v2205 + 1))))) ?_
        refine l_ds 28 (.one (.d (.int .i64 (w64 (v2205 + 1))))) ?_
        refine l_nil ?_
        refine q_fall ?_
        exact Lab.m (v2238, (w64 (v2205 + 1))) [(200001, some 200001), (200002, some 200002)] h
    · refine AW.exit ?_
      refine q_exit ?_
      refine q_exit ?_
      refine q_bhere ?_
      refine q_bfall ?_
      refine q_fall ?_
      refine AW.regL [(0, none), (1, none)] (by kernel_rfl) ?_
      refine l_ds 46 (.one (.d (.int .i64 (w64 (v1995 + 1))))) ?_
      refine l_ds 21 (.one (.d (.int .i64 (w64 (v1995 + 1))))) ?_
      refine l_nil ?_
      refine q_fall ?_
      exact Lab.m (v2204, (w64 (v1995 + 1))) [(200001, some 200001)] h
  · refine AW.exit ?_
    refine q_exit ?_
    refine q_exit ?_
    refine q_bhere ?_
    refine q_fall ?_
    refine AW.seq ?_
    refine AW.sregL [(0, none), (1, none), (2, none), (3, none)] (by kernel_rfl) ?_
    refine l_ds 47 (.one (.ref 200001 0 0 2)) ?_
    refine l_ds 48 (.one (.d (.sl (List.map TRemoved.enc r_0_19.removed)))) ?_
    refine l_spec (some 49) (.lens (.t 48)) (.one (.d (.int .i64 (r_0_19.removed.length : Int))), []) (by kernel_rfl) (detA_none (d_lens_sl (enc := TRemoved.enc) r_0_19.removed (by kernel_rfl))) ?_
    refine l_ds 50 (.one (.d (.int .i64 0))) ?_
    refine l_nil ?_
    refine AW.blk ?_
    refine AW.loopL (S := (Int × Int)) (fun s => (fun (v2288 : Int) (v2289 : Int) => [(1, .one (.d (.int .i64 partition_19))), (2, .one (.d (.str service_19))), (3, .one (.ref 200001 0 0 0)), (8, .one (.d (.int .i64 v2288))), (9, .one (.d (.int .i64 0))), (48, .one (.d (.sl (List.map TRemoved.enc r_0_19.removed)))), (49, .one (.d (.int .i64 (r_0_19.removed.length : Int)))), (50, .one (.d (.int .i64 v2289)))]) s.1 s.2) (fun s => (fun (v2288 : Int) (v2289 : Int) => [(200001, .expl true 50 4 [[.d (.sl (List.map TTrace.enc r_0_19.traces)), .d (.sl (List.map TExchange.enc r_0_19.exchanges)), .d (.sl (List.map TRemoved.enc r_0_19.removed)), .d (.sl (List.map TLate.enc r_0_19.late))]])]) s.1 s.2) (fun (s : (Int × Int)) N2300 => L19_5 r_0_19 partition_19 service_19 K s.1 s.2 N2300) (N := fun s => LoopW (fun (s : (Int × Int)) N2300 => L19_5 r_0_19 partition_19 service_19 K s.1 s.2 N2300) s) (Lab.m (v1994, 0) [(200001, some 200001)] h) (fun _ h => h) ?_
    rintro ⟨v2288, v2289⟩ N2300 h
    have h : L19_5 r_0_19 partition_19 service_19 K v2288 v2289 N2300 := h
    unfold L19_5 at h
    refine AW.sregL [(0, none)] (by kernel_rfl) ?_
    refine l_ds 51 (.one (.d (.bool (decide (v2289 < (r_0_19.removed.length : Int)))))) ?_
    refine l_nil ?_
    refine AW.seq ?_
    refine AW.cond' (by kernel_rfl) h (fun h => ?_) (fun h => ?_)
    · refine AW.skip ?_
      refine q_fall ?_
      refine AW.seqL (S := Int) (fun s => (fun (v2307 : Int) => [(1, .one (.d (.int .i64 partition_19))), (2, .one (.d (.str service_19))), (3, .one (.ref 200001 0 0 0)), (8, .one (.d (.int .i64 v2307))), (9, .one (.d (.int .i64 0))), (48, .one (.d (.sl (List.map TRemoved.enc r_0_19.removed)))), (49, .one (.d (.int .i64 (r_0_19.removed.length : Int)))), (50, .one (.d (.int .i64 v2289)))]) s) (fun s => (fun (v2307 : Int) => [(200001, .expl true 50 4 [[.d (.sl (List.map TTrace.enc r_0_19.traces)), .d (.sl (List.map TExchange.enc r_0_19.exchanges)), .d (.sl (List.map TRemoved.enc r_0_19.removed)), .d (.sl (List.map TLate.enc r_0_19.late))]])]) s) (fun s : Int => J19_6 N2300 v2289 s) ?_ ?_
      · refine AW.blk ?_
        refine AW.sregL [(0, none), (1, none), (2, none), (3, none)] (by kernel_rfl) ?_
        obtain ⟨h875, x2309, h876, h⟩ := h
        refine l_spec (some 52) (.iad 4 (.t 48) (.t 50)) (.one (.d (.ptr [.int .i64 x2309.partition, .str x2309.service, .int .i64 x2309.spans, .int .i64 x2309.errors])), []) (by kernel_rfl) (detA_none (d_iad_sl (enc := TRemoved.enc) (k := .i64) r_0_19.removed x2309 (by kernel_rfl) (by kernel_rfl) h875 h876 rfl)) ?_
        refine l_ds 53 (.agg [.d (.int .i64 x2309.partition), .d (.str x2309.service), .d (.int .i64 x2309.spans), .d (.int .i64 x2309.errors)]) ?_
        refine l_det (some 15) (.one (.ref 15 1 0 0), [(15, 1, .row true 60 4 [[.d (.int .i64 0), .d (.str (⟨#[]⟩ : ByteArray)), .d (.int .i64 0), .d (.int .i64 0)]])]) (by kernel_rfl) ?_
        refine l_det none (.tup [], [(15, 1, .row true 60 4 [[.d (.int .i64 x2309.partition), .d (.str x2309.service), .d (.int .i64 x2309.spans), .d (.int .i64 x2309.errors)]])]) (by kernel_rfl) ?_
        refine l_nil ?_
        refine AW.seqL (S := Bool) (fun s => (fun (v2310 : Bool) => [(1, .one (.d (.int .i64 partition_19))), (2, .one (.d (.str service_19))), (3, .one (.ref 200001 0 0 0)), (8, .one (.d (.int .i64 v2288))), (9, .one (.d (.int .i64 0))), (15, .one (.ref 200002 0 0 0)), (48, .one (.d (.sl (List.map TRemoved.enc r_0_19.removed)))), (49, .one (.d (.int .i64 (r_0_19.removed.length : Int)))), (50, .one (.d (.int .i64 v2289))), (63, .one (.d (.bool v2310)))]) s) (fun s => (fun (v2310 : Bool) => [(200001, .expl true 50 4 [[.d (.sl (List.map TTrace.enc r_0_19.traces)), .d (.sl (List.map TExchange.enc r_0_19.exchanges)), .d (.sl (List.map TRemoved.enc r_0_19.removed)), .d (.sl (List.map TLate.enc r_0_19.late))]]), (200002, .expl true 60 4 [[.d (.int .i64 x2309.partition), .d (.str x2309.service), .d (.int .i64 x2309.spans), .d (.int .i64 x2309.errors)]])]) s) (fun s : Bool => J19_7 N2300 v2289 v2288 x2309 s) ?_ ?_
        · refine AW.regL [(0, none), (1, none), (2, none), (3, none), (4, none), (5, none), (6, none), (7, none), (8, none), (9, none)] (by kernel_rfl) ?_
          refine l_ds 54 (.one (.ref 15 1 0 0)) ?_
          refine l_ds 55 (.one (.d (.int .i64 x2309.partition))) ?_
          refine l_ds 56 (.one (.d (.int .i64 partition_19))) ?_
          refine l_ds 57 (.one (.d (.bool (decide (x2309.partition = partition_19))))) ?_
          refine l_ds 58 (.one (.d (.bool (decide (x2309.partition = partition_19))))) ?_
          refine l_split (s := 58) (by kernel_rfl) h (fun h => ?_) (fun h => ?_)
          · refine l_ds 59 (.one (.ref 15 1 0 1)) ?_
            refine l_ds 60 (.one (.d (.str x2309.service))) ?_
            refine l_ds 61 (.one (.d (.str service_19))) ?_
            refine l_ds 62 (.one (.d (.bool (decide (x2309.service = service_19))))) ?_
            refine l_ds 63 (.one (.d (.bool (decide (x2309.service = service_19))))) ?_
            refine l_nil ?_
            refine q_fall ?_
            exact Lab.m (decide (x2309.service = service_19)) [(200001, some 200001), (200002, some 15)] h
          · refine l_ds 59 (.tup []) ?_
            refine l_ds 60 (.tup []) ?_
            refine l_ds 61 (.tup []) ?_
            refine l_ds 62 (.tup []) ?_
            refine l_ds 63 (.one (.d (.bool false))) ?_
            refine l_nil ?_
            refine q_fall ?_
            exact Lab.m false [(200001, some 200001), (200002, some 15)] h
        · rintro v2310 h
          have h : J19_7 N2300 v2289 v2288 x2309 v2310 := h
          unfold J19_7 at h
          refine AW.cond' (by kernel_rfl) h (fun h => ?_) (fun h => ?_)
          · refine AW.regL [(0, none), (1, none), (2, none), (3, none), (4, none)] (by kernel_rfl) ?_
            refine l_ds 64 (.one (.d (.int .i64 v2288))) ?_
            refine l_ds 65 (.one (.ref 200002 0 0 2)) ?_
            refine l_ds 66 (.one (.d (.int .i64 x2309.spans))) ?_
            refine l_ds 67 (.one (.d (.int .i64 (w64 (v2288 + x2309.spans))))) ?_
            refine l_ds 8 (.one (.d (.int .i64 (w64 (v2288 + x2309.spans))))) ?_
            refine l_nil ?_
            refine q_bfall ?_
            refine q_fall ?_
            exact Lab.m (w64 (v2288 + x2309.spans)) [(200001, some 200001)] h
          · refine AW.skip ?_
            refine q_bfall ?_
            refine q_fall ?_
            exact Lab.m v2288 [(200001, some 200001)] h
      · rintro v2307 h
        have h : J19_6 N2300 v2289 v2307 := h
        unfold J19_6 at h
        refine AW.regL [(0, none), (1, none)] (by kernel_rfl) ?_
        refine l_ds 68 (.one (.d (.int .i64 (w64 (v2289 + 1))))) ?_
        refine l_ds 50 (.one (.d (.int .i64 (w64 (v2289 + 1))))) ?_
        refine l_nil ?_
        refine q_fall ?_
        exact Lab.m (v2307, (w64 (v2289 + 1))) [(200001, some 200001)] h
    · refine AW.exit ?_
      refine q_exit ?_
      refine q_exit ?_
      refine q_bhere ?_
      refine q_fall ?_
      refine AW.seq ?_
      refine AW.sregL [(0, none), (1, none), (2, none), (3, none)] (by kernel_rfl) ?_
      refine l_ds 69 (.one (.ref 200001 0 0 3)) ?_
      refine l_ds 70 (.one (.d (.sl (List.map TLate.enc r_0_19.late)))) ?_
      refine l_spec (some 71) (.lens (.t 70)) (.one (.d (.int .i64 (r_0_19.late.length : Int))), []) (by kernel_rfl) (detA_none (d_lens_sl (enc := TLate.enc) r_0_19.late (by kernel_rfl))) ?_
      refine l_ds 72 (.one (.d (.int .i64 0))) ?_
      refine l_nil ?_
      refine AW.blk ?_
      refine AW.loopL (S := (Int × Int)) (fun s => (fun (v2342 : Int) (v2343 : Int) => [(1, .one (.d (.int .i64 partition_19))), (8, .one (.d (.int .i64 v2288))), (9, .one (.d (.int .i64 v2342))), (70, .one (.d (.sl (List.map TLate.enc r_0_19.late)))), (71, .one (.d (.int .i64 (r_0_19.late.length : Int)))), (72, .one (.d (.int .i64 v2343)))]) s.1 s.2) (fun s => (fun (v2342 : Int) (v2343 : Int) => []) s.1 s.2) (fun (s : (Int × Int)) N2351 => L19_8 r_0_19 partition_19 K v2288 s.1 s.2 N2351) (N := fun s => LoopW (fun (s : (Int × Int)) N2351 => L19_8 r_0_19 partition_19 K v2288 s.1 s.2 N2351) s) (Lab.m (0, 0) [] h) (fun _ h => h) ?_
      rintro ⟨v2342, v2343⟩ N2351 h
      have h : L19_8 r_0_19 partition_19 K v2288 v2342 v2343 N2351 := h
      unfold L19_8 at h
      refine AW.sregL [(0, none)] (by kernel_rfl) ?_
      refine l_ds 73 (.one (.d (.bool (decide (v2343 < (r_0_19.late.length : Int)))))) ?_
      refine l_nil ?_
      refine AW.seq ?_
      refine AW.cond' (by kernel_rfl) h (fun h => ?_) (fun h => ?_)
      · refine AW.skip ?_
        refine q_fall ?_
        refine AW.seqL (S := Int) (fun s => (fun (v2356 : Int) => [(1, .one (.d (.int .i64 partition_19))), (8, .one (.d (.int .i64 v2288))), (9, .one (.d (.int .i64 v2356))), (70, .one (.d (.sl (List.map TLate.enc r_0_19.late)))), (71, .one (.d (.int .i64 (r_0_19.late.length : Int)))), (72, .one (.d (.int .i64 v2343)))]) s) (fun s => (fun (v2356 : Int) => []) s) (fun s : Int => J19_9 N2351 v2343 s) ?_ ?_
        · refine AW.blk ?_
          refine AW.sregL [(0, none), (1, none), (2, none), (3, none)] (by kernel_rfl) ?_
          obtain ⟨h947, x2358, h948, h⟩ := h
          refine l_spec (some 74) (.iad 2 (.t 70) (.t 72)) (.one (.d (.ptr [.int .i64 x2358.partition, .int .i64 x2358.spans])), []) (by kernel_rfl) (detA_none (d_iad_sl (enc := TLate.enc) (k := .i64) r_0_19.late x2358 (by kernel_rfl) (by kernel_rfl) h947 h948 rfl)) ?_
          refine l_ds 75 (.agg [.d (.int .i64 x2358.partition), .d (.int .i64 x2358.spans)]) ?_
          refine l_det (some 17) (.one (.ref 17 1 0 0), [(17, 1, .row true 62 2 [[.d (.int .i64 0), .d (.int .i64 0)]])]) (by kernel_rfl) ?_
          refine l_det none (.tup [], [(17, 1, .row true 62 2 [[.d (.int .i64 x2358.partition), .d (.int .i64 x2358.spans)]])]) (by kernel_rfl) ?_
          refine l_nil ?_
          refine AW.sregL [(0, none), (1, none), (2, none), (3, none)] (by kernel_rfl) ?_
          refine l_ds 76 (.one (.ref 17 1 0 0)) ?_
          refine l_ds 77 (.one (.d (.int .i64 x2358.partition))) ?_
          refine l_ds 78 (.one (.d (.int .i64 partition_19))) ?_
          refine l_ds 79 (.one (.d (.bool (decide (x2358.partition = partition_19))))) ?_
          refine l_nil ?_
          refine AW.cond' (by kernel_rfl) h (fun h => ?_) (fun h => ?_)
          · refine AW.regL [(0, none), (1, none), (2, none), (3, none), (4, none)] (by kernel_rfl) ?_
            refine l_ds 80 (.one (.d (.int .i64 v2342))) ?_
            refine l_ds 81 (.one (.ref 17 1 0 1)) ?_
            refine l_ds 82 (.one (.d (.int .i64 x2358.spans))) ?_
            refine l_ds 83 (.one (.d (.int .i64 (w64 (v2342 + x2358.spans))))) ?_
            refine l_ds 9 (.one (.d (.int .i64 (w64 (v2342 + x2358.spans))))) ?_
            refine l_nil ?_
            refine q_bfall ?_
            refine q_fall ?_
            exact Lab.m (w64 (v2342 + x2358.spans)) [] h
          · refine AW.skip ?_
            refine q_bfall ?_
            refine q_fall ?_
            exact Lab.m v2342 [] h
        · rintro v2356 h
          have h : J19_9 N2351 v2343 v2356 := h
          unfold J19_9 at h
          refine AW.regL [(0, none), (1, none)] (by kernel_rfl) ?_
          refine l_ds 84 (.one (.d (.int .i64 (w64 (v2343 + 1))))) ?_
          refine l_ds 72 (.one (.d (.int .i64 (w64 (v2343 + 1))))) ?_
          refine l_nil ?_
          refine q_fall ?_
          exact Lab.m (v2356, (w64 (v2343 + 1))) [] h
      · refine AW.exit ?_
        refine q_exit ?_
        refine q_exit ?_
        refine q_bhere ?_
        refine q_fall ?_
        refine AW.sregL [(0, none), (1, none), (2, none), (3, none), (4, none), (5, none), (6, none), (7, none), (8, none)] (by kernel_rfl) ?_
        refine l_ds 85 (.one (.d (.int .i64 v2288))) ?_
        refine l_ds 86 (.one (.d (.int .i64 v2342))) ?_
        refine l_ds 87 (.one (.d (.int .i64 (w64 (v2288 - v2342))))) ?_
        refine l_ds 88 (.one (.d (.int .i64 (if (w64 (v2288 - v2342)) > 0 then (w64 (v2288 - v2342)) else 0)))) ?_
        refine l_ds 89 (.one (.d (.int .i64 v2288))) ?_
        refine l_ds 90 (.one (.d (.int .i64 v2342))) ?_
        refine l_ds 91 (.one (.d (.int .i64 (w64 (v2288 + v2342))))) ?_
        refine l_ds 6 (.one (.d (.int .i64 (if (w64 (v2288 - v2342)) > 0 then (w64 (v2288 - v2342)) else 0)))) ?_
        refine l_ds 7 (.one (.d (.int .i64 (w64 (v2288 + v2342))))) ?_
        refine l_nil ?_
        refine AW.ret ?_
        exact q_end [.one (.d (.int .i64 (if (w64 (v2288 - v2342)) > 0 then (w64 (v2288 - v2342)) else 0))), .one (.d (.int .i64 (w64 (v2288 + v2342))))] [false, false] [.one (.d (.int .i64 (if (w64 (v2288 - v2342)) > 0 then (w64 (v2288 - v2342)) else 0))), .one (.d (.int .i64 (w64 (v2288 + v2342))))] [] [] (by kernel_rfl) ⟨by kernel_rfl, by kernel_rfl⟩ (by kernel_rfl) (by kernel_rfl) (by kernel_rfl) (by kernel_rfl) (Eq.mp (by kernel_rfl) (hK ((if (w64 (v2288 - v2342)) > 0 then (w64 (v2288 - v2342)) else 0), (w64 (v2288 + v2342))) h)) (.inr rfl)
def r12_0 : List AR := [⟨some 0, .mov (.c (.bool false)), [], none⟩]
def r12_1 : List AR := [⟨some 10, .call 36 [], [], none⟩,
  ⟨some 11, .call 14 [.t 10, .c (.int .i64 1)], [0, 0], none⟩,
  ⟨some 9, .mov (.t 11), [1], none⟩,
  ⟨some 12, .ext (.t 9) 0, [2], none⟩,
  ⟨some 13, .ext (.t 9) 1, [2], none⟩,
  ⟨some 1, .mov (.t 12), [3, 1, 0, 1, 2, 3], none⟩,
  ⟨some 2, .mov (.t 13), [4, 5, 0, 1, 2, 3, 4, 5], none⟩]
def r12_2 : List AR := [⟨some 15, .call 36 [], [], none⟩,
  ⟨some 16, .call 14 [.t 15, .c (.int .i64 2)], [0, 0], none⟩,
  ⟨some 14, .mov (.t 16), [1], none⟩,
  ⟨some 17, .ext (.t 14) 0, [2], none⟩,
  ⟨some 18, .ext (.t 14) 1, [2], none⟩,
  ⟨some 3, .mov (.t 17), [3, 1, 0, 1, 2, 3], none⟩,
  ⟨some 4, .mov (.t 18), [4, 5, 0, 1, 2, 3, 4, 5], none⟩]
def r12_3 : List AR := [⟨some 19, .bld [.int .i64 0, .int .i64 0, .nils] [(0, 1, .c (.int .i64 3)), (1, 1, .c (.int .i64 1))], [], none⟩,
  ⟨some 5, .alloc 53 true [.int .i64 0, .int .i64 0, .nils], [], none⟩,
  ⟨none, .st 3 (.t 5) (.t 19), [1, 0, 0, 1], none⟩]
def r12_4 : List AR := [⟨some 6, .mov (.c (.int .i64 1)), [], none⟩]
def r12_5 : List AR := [⟨some 20, .mov (.t 6), [], none⟩,
  ⟨some 21, .bin .leq (.t 20) (.c (.int .i64 4)), [0], none⟩]
def r12_6 : List AR := [⟨some 24, .fad (.t 5) 2, [], none⟩,
  ⟨some 25, .ld false 1 (.t 24), [0], none⟩,
  ⟨some 26, .mov (.t 6), [], none⟩,
  ⟨some 27, .bsl 9 1 4 [.str ⟨#[]⟩] [(0, .c (.str ⟨#[115]⟩)), (1, .c (.str ⟨#[115]⟩)), (2, .c (.str ⟨#[116]⟩)), (3, .c (.str ⟨#[115]⟩))], [], none⟩,
  ⟨some 28, .mov (.t 6), [], none⟩,
  ⟨some 29, .bin .sub (.t 28) (.c (.int .i64 1)), [4], none⟩,
  ⟨some 30, .iad 1 (.t 27) (.t 29), [3, 5], none⟩,
  ⟨some 31, .ld false 1 (.t 30), [6], none⟩,
  ⟨some 32, .bld [.int .i64 0, .int .i64 0, .int .i64 0, .int .i64 0, .int .i64 0, .int .i64 0, .str ⟨#[]⟩, .str ⟨#[]⟩, .str ⟨#[]⟩, .int .i64 0, .int .i64 0, .bool false, .nils, .nils] [(0, 1, .c (.int .i64 3)), (1, 1, .t 26), (4, 1, .c (.int .i64 1)), (5, 1, .c (.int .i64 3)), (6, 1, .t 31), (8, 1, .c (.str ⟨#[111]⟩))], [2, 7], none⟩,
  ⟨some 33, .bsl 58 14 1 [.int .i64 0, .int .i64 0, .int .i64 0, .int .i64 0, .int .i64 0, .int .i64 0, .str ⟨#[]⟩, .str ⟨#[]⟩, .str ⟨#[]⟩, .int .i64 0, .int .i64 0, .bool false, .nils, .nils] [(0, .t 32)], [8], none⟩,
  ⟨some 34, .app 58 14 168 [.int .i64 0, .int .i64 0, .int .i64 0, .int .i64 0, .int .i64 0, .int .i64 0, .str ⟨#[]⟩, .str ⟨#[]⟩, .str ⟨#[]⟩, .int .i64 0, .int .i64 0, .bool false, .nils, .nils] (.t 25) (.t 33), [1, 9], none⟩,
  ⟨some 35, .fad (.t 5) 2, [0, 1, 2, 3, 4, 5, 6, 7, 8, 9, 10], none⟩,
  ⟨none, .st 1 (.t 35) (.t 34), [11, 10, 10, 0, 1, 2, 3, 4, 5, 6, 7, 8, 9, 10], none⟩]
def r12_7 : List AR := [⟨some 22, .mov (.t 6), [], none⟩,
  ⟨some 23, .bin .add (.t 22) (.c (.int .i64 1)), [0], none⟩,
  ⟨some 6, .mov (.t 23), [1, 0, 1], none⟩]
def r12_8 : List AR := [⟨some 37, .ld true 3 (.t 5), [], none⟩,
  ⟨some 38, .bsl 53 3 1 [.int .i64 0, .int .i64 0, .nils] [(0, .t 37)], [0], none⟩,
  ⟨some 39, .bld [.int .i64 0, .str ⟨#[]⟩, .int .i64 0, .int .i64 0] [(1, 1, .c (.str ⟨#[115]⟩)), (2, 1, .c (.int .i64 10))], [], none⟩,
  ⟨some 40, .bsl 60 4 1 [.int .i64 0, .str ⟨#[]⟩, .int .i64 0, .int .i64 0] [(0, .t 39)], [2], none⟩,
  ⟨some 41, .bld [.int .i64 0, .int .i64 0] [(1, 1, .c (.int .i64 2))], [], none⟩,
  ⟨some 42, .bsl 62 2 1 [.int .i64 0, .int .i64 0] [(0, .t 41)], [4], none⟩,
  ⟨some 43, .bld [.nils, .nils, .nils, .nils] [(0, 1, .t 38), (2, 1, .t 40), (3, 1, .t 42)], [1, 3, 5], none⟩,
  ⟨some 44, .call 19 [.t 43, .c (.int .i64 0), .c (.str ⟨#[115]⟩)], [6], none⟩,
  ⟨some 36, .mov (.t 44), [7], none⟩,
  ⟨some 45, .ext (.t 36) 0, [8], none⟩,
  ⟨some 46, .ext (.t 36) 1, [8], none⟩,
  ⟨some 7, .mov (.t 45), [9, 7, 0, 1, 2, 3, 4, 5, 6, 7, 8, 9], none⟩,
  ⟨some 8, .mov (.t 46), [10, 11, 0, 1, 2, 3, 4, 5, 6, 7, 8, 9, 10, 11], none⟩]
def r12_9 : List AR := [⟨some 47, .mov (.t 2), [], none⟩,
  ⟨some 48, .bin .eql (.t 47) (.c (.int .i64 0)), [0], none⟩,
  ⟨some 49, .mov (.t 48), [1], none⟩,
  ⟨some 50, .mov (.t 4), [2], some (49, true)⟩,
  ⟨some 51, .bin .eql (.t 50) (.c (.int .i64 0)), [3, 2], some (49, true)⟩,
  ⟨some 52, .pick (.t 49) (.t 51) (.c (.bool false)), [2, 4], none⟩,
  ⟨some 53, .mov (.t 52), [5, 2], none⟩,
  ⟨some 54, .mov (.t 1), [6], some (53, true)⟩,
  ⟨some 55, .lens (.t 54), [7, 6], some (53, true)⟩,
  ⟨some 56, .bin .eql (.t 55) (.c (.int .i64 1)), [8, 6], some (53, true)⟩,
  ⟨some 57, .pick (.t 53) (.t 56) (.c (.bool false)), [6, 9], none⟩,
  ⟨some 58, .mov (.t 57), [10, 6], none⟩,
  ⟨some 59, .mov (.t 1), [11], some (58, true)⟩,
  ⟨some 60, .iad 7 (.t 59) (.c (.int .i64 0)), [12, 11], some (58, true)⟩,
  ⟨some 61, .fad (.t 60) 3, [13, 11], some (58, true)⟩,
  ⟨some 62, .ld true 4 (.t 61), [14, 11], some (58, true)⟩,
  ⟨some 63, .bld [.int .i64 0, .int .i64 0, .int .i64 0, .int .i64 0] [(0, 1, .c (.int .i64 8)), (1, 1, .c (.int .i64 4)), (2, 1, .c (.int .i64 60)), (3, 1, .c (.int .i64 4))], [11], some (58, true)⟩,
  ⟨some 64, .eqs false [.i, .i, .i, .i] (.t 62) (.t 63), [15, 16, 11], some (58, true)⟩,
  ⟨some 65, .pick (.t 58) (.t 64) (.c (.bool false)), [11, 17], none⟩,
  ⟨some 66, .mov (.t 65), [18, 11], none⟩,
  ⟨some 67, .mov (.t 3), [19], some (66, true)⟩,
  ⟨some 68, .lens (.t 67), [20, 19], some (66, true)⟩,
  ⟨some 69, .bin .eql (.t 68) (.c (.int .i64 2)), [21, 19], some (66, true)⟩,
  ⟨some 70, .pick (.t 66) (.t 69) (.c (.bool false)), [19, 22], none⟩,
  ⟨some 71, .mov (.t 70), [23, 19], none⟩,
  ⟨some 72, .mov (.t 3), [24], some (71, true)⟩,
  ⟨some 73, .iad 7 (.t 72) (.c (.int .i64 1)), [25, 24], some (71, true)⟩,
  ⟨some 74, .ld true 7 (.t 73), [26, 24], some (71, true)⟩,
  ⟨some 75, .bld [.str ⟨#[]⟩, .str ⟨#[]⟩, .str ⟨#[]⟩] [(0, 1, .c (.str ⟨#[97, 112, 105]⟩)), (1, 1, .c (.str ⟨#[118, 50]⟩))], [24], some (71, true)⟩,
  ⟨some 76, .bld [.int .i64 0, .int .i64 0, .int .i64 0, .int .i64 0] [(0, 1, .c (.int .i64 4)), (1, 1, .c (.int .i64 4)), (2, 1, .c (.int .i64 20)), (3, 1, .c (.int .i64 4))], [24], some (71, true)⟩,
  ⟨some 77, .bld [.str ⟨#[]⟩, .str ⟨#[]⟩, .str ⟨#[]⟩, .int .i64 0, .int .i64 0, .int .i64 0, .int .i64 0] [(0, 3, .t 75), (3, 4, .t 76)], [28, 29, 24], some (71, true)⟩,
  ⟨some 78, .eqs false [.s, .s, .s, .i, .i, .i, .i] (.t 74) (.t 77), [27, 30, 24], some (71, true)⟩,
  ⟨some 79, .pick (.t 71) (.t 78) (.c (.bool false)), [24, 31], none⟩,
  ⟨some 80, .mov (.t 79), [32, 24], none⟩,
  ⟨some 81, .mov (.t 7), [33], some (80, true)⟩,
  ⟨some 82, .bin .eql (.t 81) (.c (.int .i64 11)), [34, 33], some (80, true)⟩,
  ⟨some 83, .pick (.t 80) (.t 82) (.c (.bool false)), [33, 35], none⟩,
  ⟨some 84, .mov (.t 83), [36, 33], none⟩,
  ⟨some 85, .mov (.t 8), [37], some (84, true)⟩,
  ⟨some 86, .bin .eql (.t 85) (.c (.int .i64 15)), [38, 37], some (84, true)⟩,
  ⟨some 87, .pick (.t 84) (.t 86) (.c (.bool false)), [37, 39], none⟩,
  ⟨some 0, .mov (.t 87), [40, 37, 0, 1, 2, 3, 4, 5, 6, 7, 8, 9, 10, 11, 12, 13, 14, 15, 16, 17, 18, 19, 20, 21, 22, 23, 24, 25, 26, 27, 28, 29, 30, 31, 32, 33, 34, 35, 36, 37, 38, 39, 40], none⟩]
def c12 : ACode := .seq (.reg r12_0 false) (.seq (.reg r12_1 false) (.seq (.reg r12_2 false) (.seq (.reg r12_3 false) (.seq (.seq (.reg r12_4 false) (.blk 0 (.loop (.seq (.seq (.reg r12_5 false) (.cond (.t 21) (.skip) (.exit 0))) (.seq (.blk 1 (.reg r12_6 true)) (.reg r12_7 false)))))) (.seq (.reg r12_8 false) (.seq (.reg r12_9 false) (.ret)))))))
theorem body12 : Try.f12.body.map (comp Try.prog 88) = some c12 := by kernel_rfl
theorem res12 : allSome (Try.f12.results.toList.map (compRes Try.prog)) = some [.s 0] := by kernel_rfl
theorem cok12 {S : FSpec} (h : ∀ args K, S args K → args.all argOk = true ∧ args.length ≤ 88 ∧ AW Try.prog 88 (some ownP) c12 (initS args) (retPost [.s 0] args K)) : COK Try.prog 12 S := of_body Try.func12 Try.ntmps12 body12 res12 h

def J12_2 (K : Bool → Prop) (v2365 : Bool) : Prop :=
  K v2365

def L12_1 (r1474 : ((List TLine) × Int)) (r1478 : ((List TLine) × Int)) (K : Bool → Prop) (v1486 : List TSpan) (v1487 : Int) (N1490 : ((List TSpan) × Int) → Prop) : Prop :=
  Cond (decide (v1487 ≤ 4)) (Idx [(⟨#[115]⟩ : ByteArray), (⟨#[115]⟩ : ByteArray), (⟨#[116]⟩ : ByteArray), (⟨#[115]⟩ : ByteArray)] (w64 (v1487 - 1)) fun x1492 => Fits ((v1486 ++ [(TSpan.mk 3 v1487 0 0 1 3 x1492 (⟨#[]⟩ : ByteArray) (⟨#[111]⟩ : ByteArray) 0 0 false [] [])]).length * 168) (N1490 ((v1486 ++ [(TSpan.mk 3 v1487 0 0 1 3 x1492 (⟨#[]⟩ : ByteArray) (⟨#[111]⟩ : ByteArray) 0 0 false [] [])]), (w64 (v1487 + 1))))) (W19 (TRetained.mk [(TTrace.mk 3 1 v1486)] [] [(TRemoved.mk 0 (⟨#[115]⟩ : ByteArray) 10 0)] [(TLate.mk 0 2)]) 0 (⟨#[115]⟩ : ByteArray) fun r2360 => Cond (decide (r1474.2 = 0)) (Cond (decide (r1478.2 = 0)) (Cond (decide ((r1474.1.length : Int) = 1)) (Idx r1474.1 0 fun x2366 => Cond (decide (x2366.total.spans = 8) && (decide (x2366.total.errors = 4) && (decide (x2366.total.duration = 60) && (decide (x2366.total.traces = 4) && true)))) (Cond (decide ((r1478.1.length : Int) = 2)) (Idx r1478.1 1 fun x2367 => Cond (decide (x2367.group.service = (⟨#[97, 112, 105]⟩ : ByteArray)) && (decide (x2367.group.version = (⟨#[118, 50]⟩ : ByteArray)) && (decide (x2367.group.operation = (⟨#[]⟩ : ByteArray)) && (decide (x2367.total.spans = 4) && (decide (x2367.total.errors = 4) && (decide (x2367.total.duration = 20) && (decide (x2367.total.traces = 4) && true))))))) (Cond (decide (r2360.1 = 11)) (J12_2 K (decide (r2360.2 = 15))) (J12_2 K false)) (J12_2 K false)) (J12_2 K false)) (J12_2 K false)) (J12_2 K false)) (J12_2 K false)) (J12_2 K false))

/-- sleuth/sleuthlaw25.known -/
def W12 (K : Bool → Prop) : Prop :=
  W36  fun r1473 => W14 r1473 1 fun r1474 => W36  fun r1477 => W14 r1477 2 fun r1478 => LoopW (fun (s : ((List TSpan) × Int)) N1490 => L12_1 r1474 r1478 K s.1 s.2 N1490) ([], 1)

def S12 : FSpec := fun args K => ∃ (Kr : Bool → Prop), args = [] ∧ W12  Kr ∧ ∀ r, Kr r → K (.one (.d (.bool r))) []

theorem en12 : enters Try.prog 12 = true := by unfold enters; rw [Try.func12]; rfl
theorem cl12 {Kr : Bool → Prop} (h : W12  Kr) : S12 [] (fun rv rows => ∃ r, rv = (.one (.d (.bool r))) ∧ rows = [] ∧ Kr r) := ⟨Kr, rfl, h, fun r hr => ⟨r, rfl, rfl, hr⟩⟩

theorem ok12 : COK Try.prog 12 S12 := by
  refine cok12 fun args K0 hS => ?_
  obtain ⟨K, rfl, h, hK⟩ := hS
  refine ⟨by kernel_rfl, by simp, ?_⟩
  unfold W12 at h
  refine AW.sregL [(0, none)] (by kernel_rfl) ?_
  refine l_ds 0 (.one (.d (.bool false))) ?_
  refine l_nil ?_
  refine AW.sregL [(0, none), (1, none), (2, none), (3, none), (4, none), (5, none), (6, none)] (by kernel_rfl) ?_
  refine l_call ok36 en36 (some 10) [] [] [] [] (by kernel_rfl) ⟨by kernel_rfl, by kernel_rfl⟩ (by kernel_rfl) (by kernel_rfl) (by kernel_rfl) (cl36  h) ?_
  rintro hR _ _ ⟨r1473, rfl, rfl, h⟩
  refine ⟨false, (.one (.d (.sl (List.map TTrace.enc r1473))), []), (fun hz => (by cases hz)), (ret_R hR (by kernel_rfl)), ?_⟩
  refine l_call ok14 en14 (some 11) [.one (.d (.sl (List.map TTrace.enc r1473))), .one (.d (.int .i64 1))] [false, false] [.one (.d (.sl (List.map TTrace.enc r1473))), .one (.d (.int .i64 1))] [] (by kernel_rfl) ⟨by kernel_rfl, by kernel_rfl⟩ (by kernel_rfl) (by kernel_rfl) (by kernel_rfl) (cl14 r1473 1 h) ?_
  rintro hR _ _ ⟨r1474, rfl, rfl, h⟩
  refine ⟨false, (.tup [.one (.view 11 1 0 ((List.map TLine.enc r1474.1).length)), .one (.d (.int .i64 r1474.2))], [(11, 1, .row true 41 7 (dmm (List.map TLine.enc r1474.1)))]), (fun hz => (by cases hz)), (ret_R hR (by kernel_rfl)), ?_⟩
  refine l_ds 9 (.tup [.one (.view 11 1 0 ((List.map TLine.enc r1474.1).length)), .one (.d (.int .i64 r1474.2))]) ?_
  refine l_ds 12 (.one (.view 11 1 0 ((List.map TLine.enc r1474.1).length))) ?_
  refine l_ds 13 (.one (.d (.int .i64 r1474.2))) ?_
  refine l_ds 1 (.one (.view 11 1 0 ((List.map TLine.enc r1474.1).length))) ?_
  refine l_ds 2 (.one (.d (.int .i64 r1474.2))) ?_
  refine l_nil ?_
  refine AW.sregL [(0, none), (1, none), (2, none), (3, none), (4, none), (5, none), (6, none)] (by kernel_rfl) ?_
  refine l_call ok36 en36 (some 15) [] [] [] [] (by kernel_rfl) ⟨by kernel_rfl, by kernel_rfl⟩ (by kernel_rfl) (by kernel_rfl) (by kernel_rfl) (cl36  h) ?_
  rintro hR _ _ ⟨r1477, rfl, rfl, h⟩
  refine ⟨false, (.one (.d (.sl (List.map TTrace.enc r1477))), []), (fun hz => (by cases hz)), (ret_R hR (by kernel_rfl)), ?_⟩
  refine l_call ok14 en14 (some 16) [.one (.d (.sl (List.map TTrace.enc r1477))), .one (.d (.int .i64 2))] [false, false] [.one (.d (.sl (List.map TTrace.enc r1477))), .one (.d (.int .i64 2))] [] (by kernel_rfl) ⟨by kernel_rfl, by kernel_rfl⟩ (by kernel_rfl) (by kernel_rfl) (by kernel_rfl) (cl14 r1477 2 h) ?_
  rintro hR _ _ ⟨r1478, rfl, rfl, h⟩
  refine ⟨false, (.tup [.one (.view 16 1 0 ((List.map TLine.enc r1478.1).length)), .one (.d (.int .i64 r1478.2))], [(16, 1, .row true 41 7 (dmm (List.map TLine.enc r1478.1)))]), (fun hz => (by cases hz)), (ret_R hR (by kernel_rfl)), ?_⟩
  refine l_ds 14 (.tup [.one (.view 16 1 0 ((List.map TLine.enc r1478.1).length)), .one (.d (.int .i64 r1478.2))]) ?_
  refine l_ds 17 (.one (.view 16 1 0 ((List.map TLine.enc r1478.1).length))) ?_
  refine l_ds 18 (.one (.d (.int .i64 r1478.2))) ?_
  refine l_ds 3 (.one (.view 16 1 0 ((List.map TLine.enc r1478.1).length))) ?_
  refine l_ds 4 (.one (.d (.int .i64 r1478.2))) ?_
  refine l_nil ?_
  refine AW.sregL [(0, none), (1, none), (2, none)] (by kernel_rfl) ?_
  refine l_ds 19 (.agg [.d (.int .i64 3), .d (.int .i64 1), .nils]) ?_
  refine l_det (some 5) (.one (.ref 5 1 0 0), [(5, 1, .row true 53 3 [[.d (.int .i64 0), .d (.int .i64 0), .nils]])]) (by kernel_rfl) ?_
  refine l_det none (.tup [], [(5, 1, .row true 53 3 [[.d (.int .i64 3), .d (.int .i64 1), .nils]])]) (by kernel_rfl) ?_
  refine l_nil ?_
  refine AW.seq ?_
  refine AW.sregL [(0, none)] (by kernel_rfl) ?_
  refine l_ds 6 (.one (.d (.int .i64 1))) ?_
  refine l_nil ?_
  refine AW.blk ?_
  refine AW.loopL (S := ((List TSpan) × Int)) (fun s => (fun (v1486 : List TSpan) (v1487 : Int) => [(1, .one (.view 200001 0 0 ((List.map TLine.enc r1474.1).length))), (2, .one (.d (.int .i64 r1474.2))), (3, .one (.view 200002 0 0 ((List.map TLine.enc r1478.1).length))), (4, .one (.d (.int .i64 r1478.2))), (5, .one (.ref 200003 0 0 0)), (6, .one (.d (.int .i64 v1487)))]) s.1 s.2) (fun s => (fun (v1486 : List TSpan) (v1487 : Int) => [(200001, .pure true 41 7 (List.map TLine.enc r1474.1)), (200002, .pure true 41 7 (List.map TLine.enc r1478.1)), (200003, .expl true 53 3 [[.d (.int .i64 3), .d (.int .i64 1), .view 200004 0 0 ((List.map TSpan.enc v1486).length)]]), (200004, .pure true 58 14 (List.map TSpan.enc v1486))]) s.1 s.2) (fun (s : ((List TSpan) × Int)) N1490 => L12_1 r1474 r1478 K s.1 s.2 N1490) (N := fun s => LoopW (fun (s : ((List TSpan) × Int)) N1490 => L12_1 r1474 r1478 K s.1 s.2 N1490) s) (Lab.m ([], 1) [(200001, some 11), (200002, some 16), (200003, some 5), (200004, none)] h) (fun _ h => h) ?_
  rintro ⟨v1486, v1487⟩ N1490 h
  have h : L12_1 r1474 r1478 K v1486 v1487 N1490 := h
  unfold L12_1 at h
  refine AW.seq ?_
  refine AW.sregL [(0, none), (1, none)] (by kernel_rfl) ?_
  refine l_ds 20 (.one (.d (.int .i64 v1487))) ?_
  refine l_ds 21 (.one (.d (.bool (decide (v1487 ≤ 4))))) ?_
  refine l_nil ?_
  refine AW.cond' (by kernel_rfl) h (fun h => ?_) (fun h => ?_)
  · refine AW.skip ?_
    refine q_fall ?_
    refine AW.seq ?_
    refine AW.blk ?_
    refine AW.regdL follows_mixed [[], [0], [], [], [], [4], [3, 4, 5], [3, 4, 5, 6], [2, 3, 4, 5, 6, 7], [2, 3, 4, 5, 6, 7, 8], [0, 1, 2, 3, 4, 5, 6, 7, 8, 9], [0, 1, 2, 3, 4, 5, 6, 7, 8, 9, 10], [0, 1, 2, 3, 4, 5, 6, 7, 8, 9, 10, 11]] [(0, none), (1, some [25, 1200003]), (2, none), (4, none), (5, none), (3, some [27]), (6, none), (7, none), (8, none), (9, some [33]), (10, none), (11, none), (12, none)] (by kernel_rfl) ?_
    refine l_ds 24 (.one (.ref 200003 0 0 2)) ?_
    refine l_ds 25 (.one (.view 200004 0 0 ((List.map TSpan.enc v1486).length))) ?_
    refine l_ds 26 (.one (.d (.int .i64 v1487))) ?_
    refine l_ds 28 (.one (.d (.int .i64 v1487))) ?_
    refine l_ds 29 (.one (.d (.int .i64 (w64 (v1487 - 1))))) ?_
    refine l_det (some 27) (.one (.view 27 1 0 4), [(27, 1, .row true 9 1 [[.d (.str (⟨#[115]⟩ : ByteArray))], [.d (.str (⟨#[115]⟩ : ByteArray))], [.d (.str (⟨#[116]⟩ : ByteArray))], [.d (.str (⟨#[115]⟩ : ByteArray))]])]) (by kernel_rfl) ?_
    obtain ⟨h34, x1492, h35, h⟩ := h
    refine l_spec (some 30) (.iad 1 (.t 27) (.t 29)) (.one (.ref 27 1 ((w64 (v1487 - 1)).toNat) 0), []) (by kernel_rfl) (detA_none (d_iad_v (enc := eStr) (k := .i64) (E := 9) (l := true) (ys := dmm (List.map eStr [(⟨#[115]⟩ : ByteArray), (⟨#[115]⟩ : ByteArray), (⟨#[116]⟩ : ByteArray), (⟨#[115]⟩ : ByteArray)])) [(⟨#[115]⟩ : ByteArray), (⟨#[115]⟩ : ByteArray), (⟨#[116]⟩ : ByteArray), (⟨#[115]⟩ : ByteArray)] x1492 (by kernel_rfl) (by kernel_rfl) (by kernel_rfl) (by kernel_rfl) h34 h35)) ?_
    refine l_spec (some 31) (.ld false 1 (.t 30)) (.one (.d (.str x1492)), []) (by kernel_rfl) (detA_none (d_ld_row (enc := eStr) (o := 27) (g := 1) (i := ((w64 (v1487 - 1)).toNat)) (off := 0) (E := 9) (sz := 1) (l := true) [(⟨#[115]⟩ : ByteArray), (⟨#[115]⟩ : ByteArray), (⟨#[116]⟩ : ByteArray), (⟨#[115]⟩ : ByteArray)] x1492 (by kernel_rfl) (by kernel_rfl) (by kernel_rfl) h35 (by kernel_rfl))) ?_
    refine l_ds 32 (.agg [.d (.int .i64 3), .d (.int .i64 v1487), .d (.int .i64 0), .d (.int .i64 0), .d (.int .i64 1), .d (.int .i64 3), .d (.str x1492), .d (.str (⟨#[]⟩ : ByteArray)), .d (.str (⟨#[111]⟩ : ByteArray)), .d (.int .i64 0), .d (.int .i64 0), .d (.bool false), .nils, .nils]) ?_
    refine l_det (some 33) (.one (.view 33 1 0 1), [(33, 1, .row true 58 14 [[.d (.int .i64 3), .d (.int .i64 v1487), .d (.int .i64 0), .d (.int .i64 0), .d (.int .i64 1), .d (.int .i64 3), .d (.str x1492), .d (.str (⟨#[]⟩ : ByteArray)), .d (.str (⟨#[111]⟩ : ByteArray)), .d (.int .i64 0), .d (.int .i64 0), .d (.bool false), .nils, .nils]])]) (by kernel_rfl) ?_
    obtain ⟨h36, h⟩ := h
    refine l_spec (some 34) (.app 58 14 168 [.int .i64 0, .int .i64 0, .int .i64 0, .int .i64 0, .int .i64 0, .int .i64 0, .str ⟨#[]⟩, .str ⟨#[]⟩, .str ⟨#[]⟩, .int .i64 0, .int .i64 0, .bool false, .nils, .nils] (.t 25) (.t 33)) (.one (.view 200004 1 0 ((List.map TSpan.enc (v1486 ++ [(TSpan.mk 3 v1487 0 0 1 3 x1492 (⟨#[]⟩ : ByteArray) (⟨#[111]⟩ : ByteArray) 0 0 false [] [])])).length)), [(200004, 1, .row true 58 14 (dmm (List.map TSpan.enc (v1486 ++ [(TSpan.mk 3 v1487 0 0 1 3 x1492 (⟨#[]⟩ : ByteArray) (⟨#[111]⟩ : ByteArray) 0 0 false [] [])]))))]) (by kernel_rfl) (detA_none (d_app_v (enc := TSpan.enc) (xc := .view 33 1 0 1) v1486 [(TSpan.mk 3 v1487 0 0 1 3 x1492 (⟨#[]⟩ : ByteArray) (⟨#[111]⟩ : ByteArray) 0 0 false [] [])] (by kernel_rfl) (by kernel_rfl) (by kernel_rfl) (by kernel_rfl) (by kernel_rfl) h36 (by kernel_rfl))) ?_
    refine l_ds 35 (.one (.ref 200003 0 0 2)) ?_
    refine l_det none (.tup [], [(200003, 0, .row true 53 3 [[.d (.int .i64 3), .d (.int .i64 1), .view 200004 1 0 ((List.map TSpan.enc (v1486 ++ [(TSpan.mk 3 v1487 0 0 1 3 x1492 (⟨#[]⟩ : ByteArray) (⟨#[111]⟩ : ByteArray) 0 0 false [] [])])).length)]])]) (by kernel_rfl) ?_
    refine l_nil ?_
    refine q_bfall ?_
    refine q_fall ?_
    refine AW.regL [(0, none), (1, none), (2, none)] (by kernel_rfl) ?_
    refine l_ds 22 (.one (.d (.int .i64 v1487))) ?_
    refine l_ds 23 (.one (.d (.int .i64 (w64 (v1487 + 1))))) ?_
    refine l_ds 6 (.one (.d (.int .i64 (w64 (v1487 + 1))))) ?_
    refine l_nil ?_
    refine q_fall ?_
    exact Lab.m ((v1486 ++ [(TSpan.mk 3 v1487 0 0 1 3 x1492 (⟨#[]⟩ : ByteArray) (⟨#[111]⟩ : ByteArray) 0 0 false [] [])]), (w64 (v1487 + 1))) [(200001, some 200001), (200002, some 200002), (200003, some 200003), (200004, some 200004)] h
  · refine AW.exit ?_
    refine q_exit ?_
    refine q_exit ?_
    refine q_bhere ?_
    refine q_fall ?_
    refine AW.sregL [(0, none), (1, none), (2, none), (3, none), (4, none), (5, none), (6, none), (7, none), (8, none), (9, none), (10, none), (11, none), (12, none)] (by kernel_rfl) ?_
    refine l_ds 37 (.agg [.d (.int .i64 3), .d (.int .i64 1), .view 200004 0 0 ((List.map TSpan.enc v1486).length)]) ?_
    refine l_det (some 38) (.one (.view 38 1 0 1), [(38, 1, .row true 53 3 [[.d (.int .i64 3), .d (.int .i64 1), .view 200004 0 0 ((List.map TSpan.enc v1486).length)]])]) (by kernel_rfl) ?_
    refine l_ds 39 (.agg [.d (.int .i64 0), .d (.str (⟨#[115]⟩ : ByteArray)), .d (.int .i64 10), .d (.int .i64 0)]) ?_
    refine l_det (some 40) (.one (.view 40 1 0 1), [(40, 1, .row true 60 4 [[.d (.int .i64 0), .d (.str (⟨#[115]⟩ : ByteArray)), .d (.int .i64 10), .d (.int .i64 0)]])]) (by kernel_rfl) ?_
    refine l_ds 41 (.agg [.d (.int .i64 0), .d (.int .i64 2)]) ?_
    refine l_det (some 42) (.one (.view 42 1 0 1), [(42, 1, .row true 62 2 [[.d (.int .i64 0), .d (.int .i64 2)]])]) (by kernel_rfl) ?_
    refine l_ds 43 (.agg [.view 38 1 0 1, .nils, .view 40 1 0 1, .view 42 1 0 1]) ?_
    refine l_call ok19 en19 (some 44) [.agg [.view 38 1 0 1, .nils, .view 40 1 0 1, .view 42 1 0 1], .one (.d (.int .i64 0)), .one (.d (.str (⟨#[115]⟩ : ByteArray)))] [false, false, false] [.agg (List.map RC.d [.sl [[.int .i64 3, .int .i64 1, .sl (List.map TSpan.enc v1486)]], .sl [], .sl [[.int .i64 0, .str (⟨#[115]⟩ : ByteArray), .int .i64 10, .int .i64 0]], .sl [[.int .i64 0, .int .i64 2]]]), .one (.d (.int .i64 0)), .one (.d (.str (⟨#[115]⟩ : ByteArray)))] [38, 200004, 40, 42] (by kernel_rfl) (ps_plain (pv_agg (pc_cons (pf_expl (xs := [[.d (.int .i64 3), .d (.int .i64 1), .view 200004 0 0 ((List.map TSpan.enc v1486).length)]]) (E := 53) (sz := 3) (l := true) (by kernel_rfl) (by kernel_rfl) (by kernel_rfl) rfl (pr_cons (pc_cons pf_d (pc_cons pf_d (pc_cons (pf_view (E := 58) (sz := 14) (l := true) (List.map TSpan.enc v1486) (by kernel_rfl) (by kernel_rfl) rfl) pc_nil))) pr_nil)) (pc_cons pf_nils (pc_cons (pk (.sl [[.int .i64 0, .str (⟨#[115]⟩ : ByteArray), .int .i64 10, .int .i64 0]]) [40] (by kernel_rfl) (by kernel_rfl)) (pc_cons (pk (.sl [[.int .i64 0, .int .i64 2]]) [42] (by kernel_rfl) (by kernel_rfl)) pc_nil))))) (ps_plain (pv_one pf_d) (ps_plain (pv_one pf_d) ps_nil))) (by kernel_rfl) (by kernel_rfl) (by kernel_rfl) (cl19 (TRetained.mk [(TTrace.mk 3 1 v1486)] [] [(TRemoved.mk 0 (⟨#[115]⟩ : ByteArray) 10 0)] [(TLate.mk 0 2)]) 0 (⟨#[115]⟩ : ByteArray) h) ?_
    rintro hR _ _ ⟨r2360, rfl, rfl, h⟩
    refine ⟨true, (.tup [.one (.d (.int .i64 r2360.1)), .one (.d (.int .i64 r2360.2))], []), (fun _ => (by kernel_rfl)), (by kernel_rfl), ?_⟩
    refine l_ds 36 (.tup [.one (.d (.int .i64 r2360.1)), .one (.d (.int .i64 r2360.2))]) ?_
    refine l_ds 45 (.one (.d (.int .i64 r2360.1))) ?_
    refine l_ds 46 (.one (.d (.int .i64 r2360.2))) ?_
    refine l_ds 7 (.one (.d (.int .i64 r2360.1))) ?_
    refine l_ds 8 (.one (.d (.int .i64 r2360.2))) ?_
    refine l_nil ?_
    refine AW.seqL (S := Bool) (fun s => (fun (v2365 : Bool) => [(0, .one (.d (.bool v2365)))]) s) (fun s => (fun (v2365 : Bool) => []) s) (fun s : Bool => J12_2 K s) ?_ ?_
    · refine AW.regL [(0, none), (1, none), (2, none), (3, none), (4, none), (5, none), (6, none), (7, none), (8, none), (9, none), (10, none), (11, none), (12, none), (13, none), (14, none), (15, none), (16, none), (17, none), (18, none), (19, none), (20, none), (21, none), (22, none), (23, none), (24, none), (25, none), (26, none), (27, none), (28, none), (29, none), (30, none), (31, none), (32, none), (33, none), (34, none), (35, none), (36, none), (37, none), (38, none), (39, none), (40, none), (41, none)] (by kernel_rfl) ?_
      refine l_ds 47 (.one (.d (.int .i64 r1474.2))) ?_
      refine l_ds 48 (.one (.d (.bool (decide (r1474.2 = 0))))) ?_
      refine l_ds 49 (.one (.d (.bool (decide (r1474.2 = 0))))) ?_
      refine l_split (s := 49) (by kernel_rfl) h (fun h => ?_) (fun h => ?_)
      · refine l_ds 50 (.one (.d (.int .i64 r1478.2))) ?_
        refine l_ds 51 (.one (.d (.bool (decide (r1478.2 = 0))))) ?_
        refine l_ds 52 (.one (.d (.bool (decide (r1478.2 = 0))))) ?_
        refine l_ds 53 (.one (.d (.bool (decide (r1478.2 = 0))))) ?_
        refine l_split (s := 53) (by kernel_rfl) h (fun h => ?_) (fun h => ?_)
        · refine l_ds 54 (.one (.view 200001 0 0 ((List.map TLine.enc r1474.1).length))) ?_
          refine l_spec (some 55) (.lens (.t 54)) (.one (.d (.int .i64 (r1474.1.length : Int))), []) (by kernel_rfl) (detA_none (d_lens_v (enc := TLine.enc) (o := 200001) (g := 0) r1474.1 (by kernel_rfl))) ?_
          refine l_ds 56 (.one (.d (.bool (decide ((r1474.1.length : Int) = 1))))) ?_
          refine l_ds 57 (.one (.d (.bool (decide ((r1474.1.length : Int) = 1))))) ?_
          refine l_ds 58 (.one (.d (.bool (decide ((r1474.1.length : Int) = 1))))) ?_
          refine l_split (s := 58) (by kernel_rfl) h (fun h => ?_) (fun h => ?_)
          · refine l_ds 59 (.one (.view 200001 0 0 ((List.map TLine.enc r1474.1).length))) ?_
            obtain ⟨h47, x2366, h48, h⟩ := h
            refine l_spec (some 60) (.iad 7 (.t 59) (.c (.int .i64 0))) (.one (.ref 200001 0 ((0 : Int).toNat) 0), []) (by kernel_rfl) (detA_none (d_iad_v (enc := TLine.enc) (k := .i64) (E := 41) (l := true) (ys := dmm (List.map TLine.enc r1474.1)) r1474.1 x2366 (by kernel_rfl) (by kernel_rfl) (by kernel_rfl) (by kernel_rfl) h47 h48)) ?_
            refine l_ds 61 (.one (.ref 200001 0 ((0 : Int).toNat) 3)) ?_
            refine l_spec (some 62) (.ld true 4 (.t 61)) (.agg [.d (.int .i64 x2366.total.spans), .d (.int .i64 x2366.total.errors), .d (.int .i64 x2366.total.duration), .d (.int .i64 x2366.total.traces)], []) (by kernel_rfl) (detA_none (d_ld_row (enc := TLine.enc) (o := 200001) (g := 0) (i := ((0 : Int).toNat)) (off := 3) (E := 41) (sz := 7) (l := true) r1474.1 x2366 (by kernel_rfl) (by kernel_rfl) (by kernel_rfl) h48 (by kernel_rfl))) ?_
            refine l_ds 63 (.agg [.d (.int .i64 8), .d (.int .i64 4), .d (.int .i64 60), .d (.int .i64 4)]) ?_
            refine l_ds 64 (.one (.d (.bool (decide (x2366.total.spans = 8) && (decide (x2366.total.errors = 4) && (decide (x2366.total.duration = 60) && (decide (x2366.total.traces = 4) && true))))))) ?_
            refine l_ds 65 (.one (.d (.bool (decide (x2366.total.spans = 8) && (decide (x2366.total.errors = 4) && (decide (x2366.total.duration = 60) && (decide (x2366.total.traces = 4) && true))))))) ?_
            refine l_ds 66 (.one (.d (.bool (decide (x2366.total.spans = 8) && (decide (x2366.total.errors = 4) && (decide (x2366.total.duration = 60) && (decide (x2366.total.traces = 4) && true))))))) ?_
            refine l_split (s := 66) (by kernel_rfl) h (fun h => ?_) (fun h => ?_)
            · refine l_ds 67 (.one (.view 200002 0 0 ((List.map TLine.enc r1478.1).length))) ?_
              refine l_spec (some 68) (.lens (.t 67)) (.one (.d (.int .i64 (r1478.1.length : Int))), []) (by kernel_rfl) (detA_none (d_lens_v (enc := TLine.enc) (o := 200002) (g := 0) r1478.1 (by kernel_rfl))) ?_
              refine l_ds 69 (.one (.d (.bool (decide ((r1478.1.length : Int) = 2))))) ?_
              refine l_ds 70 (.one (.d (.bool (decide ((r1478.1.length : Int) = 2))))) ?_
              refine l_ds 71 (.one (.d (.bool (decide ((r1478.1.length : Int) = 2))))) ?_
              refine l_split (s := 71) (by kernel_rfl) h (fun h => ?_) (fun h => ?_)
              · refine l_ds 72 (.one (.view 200002 0 0 ((List.map TLine.enc r1478.1).length))) ?_
                obtain ⟨h49, x2367, h50, h⟩ := h
                refine l_spec (some 73) (.iad 7 (.t 72) (.c (.int .i64 1))) (.one (.ref 200002 0 ((1 : Int).toNat) 0), []) (by kernel_rfl) (detA_none (d_iad_v (enc := TLine.enc) (k := .i64) (E := 41) (l := true) (ys := dmm (List.map TLine.enc r1478.1)) r1478.1 x2367 (by kernel_rfl) (by kernel_rfl) (by kernel_rfl) (by kernel_rfl) h49 h50)) ?_
                refine l_spec (some 74) (.ld true 7 (.t 73)) (.agg [.d (.str x2367.group.service), .d (.str x2367.group.version), .d (.str x2367.group.operation), .d (.int .i64 x2367.total.spans), .d (.int .i64 x2367.total.errors), .d (.int .i64 x2367.total.duration), .d (.int .i64 x2367.total.traces)], []) (by kernel_rfl) (detA_none (d_ld_row (enc := TLine.enc) (o := 200002) (g := 0) (i := ((1 : Int).toNat)) (off := 0) (E := 41) (sz := 7) (l := true) r1478.1 x2367 (by kernel_rfl) (by kernel_rfl) (by kernel_rfl) h50 (by kernel_rfl))) ?_
                refine l_ds 75 (.agg [.d (.str (⟨#[97, 112, 105]⟩ : ByteArray)), .d (.str (⟨#[118, 50]⟩ : ByteArray)), .d (.str (⟨#[]⟩ : ByteArray))]) ?_
                refine l_ds 76 (.agg [.d (.int .i64 4), .d (.int .i64 4), .d (.int .i64 20), .d (.int .i64 4)]) ?_
                refine l_ds 77 (.agg [.d (.str (⟨#[97, 112, 105]⟩ : ByteArray)), .d (.str (⟨#[118, 50]⟩ : ByteArray)), .d (.str (⟨#[]⟩ : ByteArray)), .d (.int .i64 4), .d (.int .i64 4), .d (.int .i64 20), .d (.int .i64 4)]) ?_
                refine l_ds 78 (.one (.d (.bool (decide (x2367.group.service = (⟨#[97, 112, 105]⟩ : ByteArray)) && (decide (x2367.group.version = (⟨#[118, 50]⟩ : ByteArray)) && (decide (x2367.group.operation = (⟨#[]⟩ : ByteArray)) && (decide (x2367.total.spans = 4) && (decide (x2367.total.errors = 4) && (decide (x2367.total.duration = 20) && (decide (x2367.total.traces = 4) && true)))))))))) ?_
                refine l_ds 79 (.one (.d (.bool (decide (x2367.group.service = (⟨#[97, 112, 105]⟩ : ByteArray)) && (decide (x2367.group.version = (⟨#[118, 50]⟩ : ByteArray)) && (decide (x2367.group.operation = (⟨#[]⟩ : ByteArray)) && (decide (x2367.total.spans = 4) && (decide (x2367.total.errors = 4) && (decide (x2367.total.duration = 20) && (decide (x2367.total.traces = 4) && true)))))))))) ?_
                refine l_ds 80 (.one (.d (.bool (decide (x2367.group.service = (⟨#[97, 112, 105]⟩ : ByteArray)) && (decide (x2367.group.version = (⟨#[118, 50]⟩ : ByteArray)) && (decide (x2367.group.operation = (⟨#[]⟩ : ByteArray)) && (decide (x2367.total.spans = 4) && (decide (x2367.total.errors = 4) && (decide (x2367.total.duration = 20) && (decide (x2367.total.traces = 4) && true)))))))))) ?_
                refine l_split (s := 80) (by kernel_rfl) h (fun h => ?_) (fun h => ?_)
                · refine l_ds 81 (.one (.d (.int .i64 r2360.1))) ?_
                  refine l_ds 82 (.one (.d (.bool (decide (r2360.1 = 11))))) ?_
                  refine l_ds 83 (.one (.d (.bool (decide (r2360.1 = 11))))) ?_
                  refine l_ds 84 (.one (.d (.bool (decide (r2360.1 = 11))))) ?_
                  refine l_split (s := 84) (by kernel_rfl) h (fun h => ?_) (fun h => ?_)
                  · refine l_ds 85 (.one (.d (.int .i64 r2360.2))) ?_
                    refine l_ds 86 (.one (.d (.bool (decide (r2360.2 = 15))))) ?_
                    refine l_ds 87 (.one (.d (.bool (decide (r2360.2 = 15))))) ?_
                    refine l_ds 0 (.one (.d (.bool (decide (r2360.2 = 15))))) ?_
                    refine l_nil ?_
                    refine q_fall ?_
                    exact Lab.m (decide (r2360.2 = 15)) [] h
                  · refine l_ds 85 (.tup []) ?_
                    refine l_ds 86 (.tup []) ?_
                    refine l_ds 87 (.one (.d (.bool false))) ?_
                    refine l_ds 0 (.one (.d (.bool false))) ?_
                    refine l_nil ?_
                    refine q_fall ?_
                    exact Lab.m false [] h
                · refine l_ds 81 (.tup []) ?_
                  refine l_ds 82 (.tup []) ?_
                  refine l_ds 83 (.one (.d (.bool false))) ?_
                  refine l_ds 84 (.one (.d (.bool false))) ?_
                  refine l_ds 85 (.tup []) ?_
                  refine l_ds 86 (.tup []) ?_
                  refine l_ds 87 (.one (.d (.bool false))) ?_
                  refine l_ds 0 (.one (.d (.bool false))) ?_
                  refine l_nil ?_
                  refine q_fall ?_
                  exact Lab.m false [] h
              · refine l_ds 72 (.tup []) ?_
                refine l_ds 73 (.tup []) ?_
                refine l_ds 74 (.tup []) ?_
                refine l_ds 75 (.tup []) ?_
                refine l_ds 76 (.tup []) ?_
                refine l_ds 77 (.tup []) ?_
                refine l_ds 78 (.tup []) ?_
                refine l_ds 79 (.one (.d (.bool false))) ?_
                refine l_ds 80 (.one (.d (.bool false))) ?_
                refine l_ds 81 (.tup []) ?_
                refine l_ds 82 (.tup []) ?_
                refine l_ds 83 (.one (.d (.bool false))) ?_
                refine l_ds 84 (.one (.d (.bool false))) ?_
                refine l_ds 85 (.tup []) ?_
                refine l_ds 86 (.tup []) ?_
                refine l_ds 87 (.one (.d (.bool false))) ?_
                refine l_ds 0 (.one (.d (.bool false))) ?_
                refine l_nil ?_
                refine q_fall ?_
                exact Lab.m false [] h
            · refine l_ds 67 (.tup []) ?_
              refine l_ds 68 (.tup []) ?_
              refine l_ds 69 (.tup []) ?_
              refine l_ds 70 (.one (.d (.bool false))) ?_
              refine l_ds 71 (.one (.d (.bool false))) ?_
              refine l_ds 72 (.tup []) ?_
              refine l_ds 73 (.tup []) ?_
              refine l_ds 74 (.tup []) ?_
              refine l_ds 75 (.tup []) ?_
              refine l_ds 76 (.tup []) ?_
              refine l_ds 77 (.tup []) ?_
              refine l_ds 78 (.tup []) ?_
              refine l_ds 79 (.one (.d (.bool false))) ?_
              refine l_ds 80 (.one (.d (.bool false))) ?_
              refine l_ds 81 (.tup []) ?_
              refine l_ds 82 (.tup []) ?_
              refine l_ds 83 (.one (.d (.bool false))) ?_
              refine l_ds 84 (.one (.d (.bool false))) ?_
              refine l_ds 85 (.tup []) ?_
              refine l_ds 86 (.tup []) ?_
              refine l_ds 87 (.one (.d (.bool false))) ?_
              refine l_ds 0 (.one (.d (.bool false))) ?_
              refine l_nil ?_
              refine q_fall ?_
              exact Lab.m false [] h
          · refine l_ds 59 (.tup []) ?_
            refine l_ds 60 (.tup []) ?_
            refine l_ds 61 (.tup []) ?_
            refine l_ds 62 (.tup []) ?_
            refine l_ds 63 (.tup []) ?_
            refine l_ds 64 (.tup []) ?_
            refine l_ds 65 (.one (.d (.bool false))) ?_
            refine l_ds 66 (.one (.d (.bool false))) ?_
            refine l_ds 67 (.tup []) ?_
            refine l_ds 68 (.tup []) ?_
            refine l_ds 69 (.tup []) ?_
            refine l_ds 70 (.one (.d (.bool false))) ?_
            refine l_ds 71 (.one (.d (.bool false))) ?_
            refine l_ds 72 (.tup []) ?_
            refine l_ds 73 (.tup []) ?_
            refine l_ds 74 (.tup []) ?_
            refine l_ds 75 (.tup []) ?_
            refine l_ds 76 (.tup []) ?_
            refine l_ds 77 (.tup []) ?_
            refine l_ds 78 (.tup []) ?_
            refine l_ds 79 (.one (.d (.bool false))) ?_
            refine l_ds 80 (.one (.d (.bool false))) ?_
            refine l_ds 81 (.tup []) ?_
            refine l_ds 82 (.tup []) ?_
            refine l_ds 83 (.one (.d (.bool false))) ?_
            refine l_ds 84 (.one (.d (.bool false))) ?_
            refine l_ds 85 (.tup []) ?_
            refine l_ds 86 (.tup []) ?_
            refine l_ds 87 (.one (.d (.bool false))) ?_
            refine l_ds 0 (.one (.d (.bool false))) ?_
            refine l_nil ?_
            refine q_fall ?_
            exact Lab.m false [] h
        · refine l_ds 54 (.tup []) ?_
          refine l_ds 55 (.tup []) ?_
          refine l_ds 56 (.tup []) ?_
          refine l_ds 57 (.one (.d (.bool false))) ?_
          refine l_ds 58 (.one (.d (.bool false))) ?_
          refine l_ds 59 (.tup []) ?_
          refine l_ds 60 (.tup []) ?_
          refine l_ds 61 (.tup []) ?_
          refine l_ds 62 (.tup []) ?_
          refine l_ds 63 (.tup []) ?_
          refine l_ds 64 (.tup []) ?_
          refine l_ds 65 (.one (.d (.bool false))) ?_
          refine l_ds 66 (.one (.d (.bool false))) ?_
          refine l_ds 67 (.tup []) ?_
          refine l_ds 68 (.tup []) ?_
          refine l_ds 69 (.tup []) ?_
          refine l_ds 70 (.one (.d (.bool false))) ?_
          refine l_ds 71 (.one (.d (.bool false))) ?_
          refine l_ds 72 (.tup []) ?_
          refine l_ds 73 (.tup []) ?_
          refine l_ds 74 (.tup []) ?_
          refine l_ds 75 (.tup []) ?_
          refine l_ds 76 (.tup []) ?_
          refine l_ds 77 (.tup []) ?_
          refine l_ds 78 (.tup []) ?_
          refine l_ds 79 (.one (.d (.bool false))) ?_
          refine l_ds 80 (.one (.d (.bool false))) ?_
          refine l_ds 81 (.tup []) ?_
          refine l_ds 82 (.tup []) ?_
          refine l_ds 83 (.one (.d (.bool false))) ?_
          refine l_ds 84 (.one (.d (.bool false))) ?_
          refine l_ds 85 (.tup []) ?_
          refine l_ds 86 (.tup []) ?_
          refine l_ds 87 (.one (.d (.bool false))) ?_
          refine l_ds 0 (.one (.d (.bool false))) ?_
          refine l_nil ?_
          refine q_fall ?_
          exact Lab.m false [] h
      · refine l_ds 50 (.tup []) ?_
        refine l_ds 51 (.tup []) ?_
        refine l_ds 52 (.one (.d (.bool false))) ?_
        refine l_ds 53 (.one (.d (.bool false))) ?_
        refine l_ds 54 (.tup []) ?_
        refine l_ds 55 (.tup []) ?_
        refine l_ds 56 (.tup []) ?_
        refine l_ds 57 (.one (.d (.bool false))) ?_
        refine l_ds 58 (.one (.d (.bool false))) ?_
        refine l_ds 59 (.tup []) ?_
        refine l_ds 60 (.tup []) ?_
        refine l_ds 61 (.tup []) ?_
        refine l_ds 62 (.tup []) ?_
        refine l_ds 63 (.tup []) ?_
        refine l_ds 64 (.tup []) ?_
        refine l_ds 65 (.one (.d (.bool false))) ?_
        refine l_ds 66 (.one (.d (.bool false))) ?_
        refine l_ds 67 (.tup []) ?_
        refine l_ds 68 (.tup []) ?_
        refine l_ds 69 (.tup []) ?_
        refine l_ds 70 (.one (.d (.bool false))) ?_
        refine l_ds 71 (.one (.d (.bool false))) ?_
        refine l_ds 72 (.tup []) ?_
        refine l_ds 73 (.tup []) ?_
        refine l_ds 74 (.tup []) ?_
        refine l_ds 75 (.tup []) ?_
        refine l_ds 76 (.tup []) ?_
        refine l_ds 77 (.tup []) ?_
        refine l_ds 78 (.tup []) ?_
        refine l_ds 79 (.one (.d (.bool false))) ?_
        refine l_ds 80 (.one (.d (.bool false))) ?_
        refine l_ds 81 (.tup []) ?_
        refine l_ds 82 (.tup []) ?_
        refine l_ds 83 (.one (.d (.bool false))) ?_
        refine l_ds 84 (.one (.d (.bool false))) ?_
        refine l_ds 85 (.tup []) ?_
        refine l_ds 86 (.tup []) ?_
        refine l_ds 87 (.one (.d (.bool false))) ?_
        refine l_ds 0 (.one (.d (.bool false))) ?_
        refine l_nil ?_
        refine q_fall ?_
        exact Lab.m false [] h
    · rintro v2365 h
      have h : J12_2 K v2365 := h
      unfold J12_2 at h
      refine AW.ret ?_
      exact q_end [.one (.d (.bool v2365))] [false] [.one (.d (.bool v2365))] [] [] (by kernel_rfl) ⟨by kernel_rfl, by kernel_rfl⟩ (by kernel_rfl) (by kernel_rfl) (by kernel_rfl) (by kernel_rfl) (Eq.mp (by kernel_rfl) (hK v2365 h)) (.inr rfl)
def r16_0 : List AR := [⟨some 1, .box 27 true 7 (.t 0), [], none⟩,
  ⟨some 2, .mov (.c (.bool false)), [], none⟩]
def r16_1 : List AR := [⟨some 3, .mov (.c (.int .i64 0)), [], none⟩]
def r16_2 : List AR := [⟨some 4, .mov (.t 3), [], none⟩,
  ⟨some 5, .fad (.t 1) 0, [], none⟩,
  ⟨some 6, .ld false 1 (.t 5), [1], none⟩,
  ⟨some 7, .lens (.t 6), [2], none⟩,
  ⟨some 8, .bin .lss (.t 4) (.t 7), [0, 3], none⟩]
def r16_3 : List AR := [⟨some 11, .fad (.t 1) 0, [], none⟩,
  ⟨some 12, .ld false 1 (.t 11), [0], none⟩,
  ⟨some 13, .mov (.t 3), [], none⟩,
  ⟨some 14, .iad 3 (.t 12) (.t 13), [1, 2], none⟩,
  ⟨some 15, .fad (.t 14) 2, [3], none⟩,
  ⟨some 16, .ld false 1 (.t 15), [4], none⟩,
  ⟨some 17, .lens (.t 16), [5], none⟩,
  ⟨some 18, .bin .gtr (.t 17) (.c (.int .i64 8)), [6], none⟩]
def r16_4 : List AR := [⟨some 2, .mov (.c (.bool false)), [], none⟩]
def r16_5 : List AR := [⟨some 9, .mov (.t 3), [], none⟩,
  ⟨some 10, .bin .add (.t 9) (.c (.int .i64 1)), [0], none⟩,
  ⟨some 3, .mov (.t 10), [1, 0, 1], none⟩]
def r16_6 : List AR := [⟨some 19, .fad (.t 1) 0, [], none⟩,
  ⟨some 20, .ld false 1 (.t 19), [0], none⟩,
  ⟨some 21, .lens (.t 20), [1], none⟩,
  ⟨some 22, .bin .leq (.t 21) (.c (.int .i64 3)), [2], none⟩,
  ⟨some 23, .mov (.t 22), [3], none⟩,
  ⟨some 24, .fad (.t 1) 5, [4], some (23, true)⟩,
  ⟨some 25, .ld false 1 (.t 24), [5, 4], some (23, true)⟩,
  ⟨some 26, .lens (.t 25), [6, 4], some (23, true)⟩,
  ⟨some 27, .bin .leq (.t 26) (.c (.int .i64 6)), [7, 4], some (23, true)⟩,
  ⟨some 28, .pick (.t 23) (.t 27) (.c (.bool false)), [4, 8], none⟩,
  ⟨some 2, .mov (.t 28), [9, 4, 0, 1, 2, 3, 4, 5, 6, 7, 8, 9], none⟩]
def c16 : ACode := .seq (.reg r16_0 false) (.seq (.seq (.reg r16_1 false) (.blk 0 (.loop (.seq (.seq (.reg r16_2 false) (.cond (.t 8) (.skip) (.exit 0))) (.seq (.blk 1 (.seq (.reg r16_3 false) (.cond (.t 18) (.seq (.reg r16_4 false) (.ret)) (.skip)))) (.reg r16_5 false)))))) (.seq (.reg r16_6 false) (.ret)))
theorem body16 : Try.f16.body.map (comp Try.prog 29) = some c16 := by kernel_rfl
theorem res16 : allSome (Try.f16.results.toList.map (compRes Try.prog)) = some [.s 2] := by kernel_rfl
theorem cok16 {S : FSpec} (h : ∀ args K, S args K → args.all argOk = true ∧ args.length ≤ 29 ∧ AW Try.prog 29 (some ownP) c16 (initS args) (retPost [.s 2] args K)) : COK Try.prog 16 S := of_body Try.func16 Try.ntmps16 body16 res16 h

def J16_2 (K : Bool → Prop) (v2397 : Bool) : Prop :=
  K v2397

def L16_1 (s_16 : TStory) (K : Bool → Prop) (v2387 : Int) (N2392 : Int → Prop) : Prop :=
  Cond (decide (v2387 < (s_16.trees.length : Int))) (Idx s_16.trees v2387 fun x2396 => Cond (decide ((x2396.calls.length : Int) > 8)) (K false) (N2392 (w64 (v2387 + 1)))) (Cond (decide ((s_16.trees.length : Int) ≤ 3)) (J16_2 K (decide ((s_16.syncs.length : Int) ≤ 6))) (J16_2 K false))

/-- sleuth/sleuthlaw13.Short -/
def W16 (s_16 : TStory) (K : Bool → Prop) : Prop :=
  LoopW (fun (s : Int) N2392 => L16_1 s_16 K s N2392) 0

def S16 : FSpec := fun args K => ∃ (s_16 : TStory), ∃ (Kr : Bool → Prop), args = [.agg (List.map RC.d (TStory.enc s_16))] ∧ W16 s_16 Kr ∧ ∀ r, Kr r → K (.one (.d (.bool r))) []

theorem en16 : enters Try.prog 16 = true := by unfold enters; rw [Try.func16]; rfl
theorem cl16 (s_16 : TStory) {Kr : Bool → Prop} (h : W16 s_16 Kr) : S16 [.agg (List.map RC.d (TStory.enc s_16))] (fun rv rows => ∃ r, rv = (.one (.d (.bool r))) ∧ rows = [] ∧ Kr r) := ⟨s_16, Kr, rfl, h, fun r hr => ⟨r, rfl, rfl, hr⟩⟩

theorem ok16 : COK Try.prog 16 S16 := by
  refine cok16 fun args K0 hS => ?_
  obtain ⟨s_16, K, rfl, h, hK⟩ := hS
  refine ⟨by kernel_rfl, by simp, ?_⟩
  unfold W16 at h
  refine AW.sregL [(0, none), (1, none)] (by kernel_rfl) ?_
  refine l_det (some 1) (.one (.ref 1 1 0 0), [(1, 1, .row true 27 7 [[.d (.sl (List.map TTree.enc s_16.trees)), .d (.int .i8 s_16.offsets.e0), .d (.int .i8 s_16.offsets.e1), .d (.int .i8 s_16.offsets.e2), .d (.int .i8 s_16.offsets.e3), .d (.sl (List.map TSync.enc s_16.syncs)), .d (.int .u8 s_16.wrong)]])]) (by kernel_rfl) ?_
  refine l_ds 2 (.one (.d (.bool false))) ?_
  refine l_nil ?_
  refine AW.seq ?_
  refine AW.sregL [(0, none)] (by kernel_rfl) ?_
  refine l_ds 3 (.one (.d (.int .i64 0))) ?_
  refine l_nil ?_
  refine AW.blk ?_
  refine AW.loopL (S := Int) (fun s => (fun (v2387 : Int) => [(1, .one (.ref 200001 0 0 0)), (3, .one (.d (.int .i64 v2387)))]) s) (fun s => (fun (v2387 : Int) => [(200001, .expl true 27 7 [[.d (.sl (List.map TTree.enc s_16.trees)), .d (.int .i8 s_16.offsets.e0), .d (.int .i8 s_16.offsets.e1), .d (.int .i8 s_16.offsets.e2), .d (.int .i8 s_16.offsets.e3), .d (.sl (List.map TSync.enc s_16.syncs)), .d (.int .u8 s_16.wrong)]])]) s) (fun (s : Int) N2392 => L16_1 s_16 K s N2392) (N := fun s => LoopW (fun (s : Int) N2392 => L16_1 s_16 K s N2392) s) (Lab.m 0 [(200001, some 1)] h) (fun _ h => h) ?_
  rintro v2387 N2392 h
  have h : L16_1 s_16 K v2387 N2392 := h
  unfold L16_1 at h
  refine AW.seq ?_
  refine AW.sregL [(0, none), (1, none), (2, none), (3, none), (4, none)] (by kernel_rfl) ?_
  refine l_ds 4 (.one (.d (.int .i64 v2387))) ?_
  refine l_ds 5 (.one (.ref 200001 0 0 0)) ?_
  refine l_ds 6 (.one (.d (.sl (List.map TTree.enc s_16.trees)))) ?_
  refine l_spec (some 7) (.lens (.t 6)) (.one (.d (.int .i64 (s_16.trees.length : Int))), []) (by kernel_rfl) (detA_none (d_lens_sl (enc := TTree.enc) s_16.trees (by kernel_rfl))) ?_
  refine l_ds 8 (.one (.d (.bool (decide (v2387 < (s_16.trees.length : Int)))))) ?_
  refine l_nil ?_
  refine AW.cond' (by kernel_rfl) h (fun h => ?_) (fun h => ?_)
  · refine AW.skip ?_
    refine q_fall ?_
    refine AW.seq ?_
    refine AW.blk ?_
    refine AW.sregL [(0, none), (1, none), (2, none), (3, none), (4, none), (5, none), (6, none), (7, none)] (by kernel_rfl) ?_
    refine l_ds 11 (.one (.ref 200001 0 0 0)) ?_
    refine l_ds 12 (.one (.d (.sl (List.map TTree.enc s_16.trees)))) ?_
    refine l_ds 13 (.one (.d (.int .i64 v2387))) ?_
    obtain ⟨h47, x2396, h48, h⟩ := h
    refine l_spec (some 14) (.iad 3 (.t 12) (.t 13)) (.one (.d (.ptr [.int .u8 x2396.slot, .int .u8 x2396.start, .sl (List.map TCall.enc x2396.calls)])), []) (by kernel_rfl) (detA_none (d_iad_sl (enc := TTree.enc) (k := .i64) s_16.trees x2396 (by kernel_rfl) (by kernel_rfl) h47 h48 rfl)) ?_
    refine l_ds 15 (.one (.d (.ptr [.sl (List.map TCall.enc x2396.calls)]))) ?_
    refine l_ds 16 (.one (.d (.sl (List.map TCall.enc x2396.calls)))) ?_
    refine l_spec (some 17) (.lens (.t 16)) (.one (.d (.int .i64 (x2396.calls.length : Int))), []) (by kernel_rfl) (detA_none (d_lens_sl (enc := TCall.enc) x2396.calls (by kernel_rfl))) ?_
    refine l_ds 18 (.one (.d (.bool (decide ((x2396.calls.length : Int) > 8))))) ?_
    refine l_nil ?_
    refine AW.cond' (by kernel_rfl) h (fun h => ?_) (fun h => ?_)
    · refine AW.sregL [(0, none)] (by kernel_rfl) ?_
      refine l_ds 2 (.one (.d (.bool false))) ?_
      refine l_nil ?_
      refine AW.ret ?_
      refine q_bret ?_
      refine q_ret ?_
      refine q_ret ?_
      refine q_bret ?_
      refine q_ret ?_
      exact q_end [.one (.d (.bool false))] [false] [.one (.d (.bool false))] [] [] (by kernel_rfl) ⟨by kernel_rfl, by kernel_rfl⟩ (by kernel_rfl) (by kernel_rfl) (by kernel_rfl) (by kernel_rfl) (Eq.mp (by kernel_rfl) (hK false h)) (.inr rfl)
    · refine AW.skip ?_
      refine q_bfall ?_
      refine q_fall ?_
      refine AW.regL [(0, none), (1, none), (2, none)] (by kernel_rfl) ?_
      refine l_ds 9 (.one (.d (.int .i64 v2387))) ?_
      refine l_ds 10 (.one (.d (.int .i64 (w64 (v2387 + 1))))) ?_
      refine l_ds 3 (.one (.d (.int .i64 (w64 (v2387 + 1))))) ?_
      refine l_nil ?_
      refine q_fall ?_
      exact Lab.m (w64 (v2387 + 1)) [(200001, some 200001)] h
  · refine AW.exit ?_
    refine q_exit ?_
    refine q_exit ?_
    refine q_bhere ?_
    refine q_fall ?_
    refine AW.seqL (S := Bool) (fun s => (fun (v2397 : Bool) => [(2, .one (.d (.bool v2397)))]) s) (fun s => (fun (v2397 : Bool) => []) s) (fun s : Bool => J16_2 K s) ?_ ?_
    · refine AW.regL [(0, none), (1, none), (2, none), (3, none), (4, none), (5, none), (6, none), (7, none), (8, none), (9, none), (10, none)] (by kernel_rfl) ?_
      refine l_ds 19 (.one (.ref 200001 0 0 0)) ?_
      refine l_ds 20 (.one (.d (.sl (List.map TTree.enc s_16.trees)))) ?_
      refine l_spec (some 21) (.lens (.t 20)) (.one (.d (.int .i64 (s_16.trees.length : Int))), []) (by kernel_rfl) (detA_none (d_lens_sl (enc := TTree.enc) s_16.trees (by kernel_rfl))) ?_
      refine l_ds 22 (.one (.d (.bool (decide ((s_16.trees.length : Int) ≤ 3))))) ?_
      refine l_ds 23 (.one (.d (.bool (decide ((s_16.trees.length : Int) ≤ 3))))) ?_
      refine l_split (s := 23) (by kernel_rfl) h (fun h => ?_) (fun h => ?_)
      · refine l_ds 24 (.one (.ref 200001 0 0 5)) ?_
        refine l_ds 25 (.one (.d (.sl (List.map TSync.enc s_16.syncs)))) ?_
        refine l_spec (some 26) (.lens (.t 25)) (.one (.d (.int .i64 (s_16.syncs.length : Int))), []) (by kernel_rfl) (detA_none (d_lens_sl (enc := TSync.enc) s_16.syncs (by kernel_rfl))) ?_
        refine l_ds 27 (.one (.d (.bool (decide ((s_16.syncs.length : Int) ≤ 6))))) ?_
        refine l_ds 28 (.one (.d (.bool (decide ((s_16.syncs.length : Int) ≤ 6))))) ?_
        refine l_ds 2 (.one (.d (.bool (decide ((s_16.syncs.length : Int) ≤ 6))))) ?_
        refine l_nil ?_
        refine q_fall ?_
        exact Lab.m (decide ((s_16.syncs.length : Int) ≤ 6)) [] h
      · refine l_ds 24 (.tup []) ?_
        refine l_ds 25 (.tup []) ?_
        refine l_ds 26 (.tup []) ?_
        refine l_ds 27 (.tup []) ?_
        refine l_ds 28 (.one (.d (.bool false))) ?_
        refine l_ds 2 (.one (.d (.bool false))) ?_
        refine l_nil ?_
        refine q_fall ?_
        exact Lab.m false [] h
    · rintro v2397 h
      have h : J16_2 K v2397 := h
      unfold J16_2 at h
      refine AW.ret ?_
      exact q_end [.one (.d (.bool v2397))] [false] [.one (.d (.bool v2397))] [] [] (by kernel_rfl) ⟨by kernel_rfl, by kernel_rfl⟩ (by kernel_rfl) (by kernel_rfl) (by kernel_rfl) (by kernel_rfl) (Eq.mp (by kernel_rfl) (hK v2397 h)) (.inr rfl)
def r52_0 : List AR := [⟨some 1, .box 58 true 14 (.t 0), [], none⟩,
  ⟨some 2, .mov (.c (.bool false)), [], none⟩]
def r52_1 : List AR := [⟨some 4, .fad (.t 1) 12, [], none⟩,
  ⟨some 5, .ld false 1 (.t 4), [0], none⟩,
  ⟨some 6, .lens (.t 5), [1], none⟩,
  ⟨some 7, .bin .gtr (.t 6) (.c (.int .i64 8)), [2], none⟩,
  ⟨some 8, .mov (.t 7), [3], none⟩,
  ⟨some 9, .fad (.t 1) 13, [4], some (8, false)⟩,
  ⟨some 10, .ld false 1 (.t 9), [5, 4], some (8, false)⟩,
  ⟨some 11, .lens (.t 10), [6, 4], some (8, false)⟩,
  ⟨some 12, .bin .gtr (.t 11) (.c (.int .i64 8)), [7, 4], some (8, false)⟩,
  ⟨some 13, .pick (.t 8) (.c (.bool true)) (.t 12), [4, 8], none⟩,
  ⟨some 14, .mov (.t 13), [9, 4], none⟩,
  ⟨some 15, .fad (.t 1) 6, [10], some (14, false)⟩,
  ⟨some 16, .ld false 1 (.t 15), [11, 10], some (14, false)⟩,
  ⟨some 17, .lent (.t 16), [12, 10], some (14, false)⟩,
  ⟨some 18, .bin .gtr (.t 17) (.c (.int .i64 100)), [13, 10], some (14, false)⟩,
  ⟨some 19, .pick (.t 14) (.c (.bool true)) (.t 18), [10, 14], none⟩,
  ⟨some 20, .mov (.t 19), [15, 10], none⟩,
  ⟨some 21, .fad (.t 1) 7, [16], some (20, false)⟩,
  ⟨some 22, .ld false 1 (.t 21), [17, 16], some (20, false)⟩,
  ⟨some 23, .lent (.t 22), [18, 16], some (20, false)⟩,
  ⟨some 24, .bin .gtr (.t 23) (.c (.int .i64 100)), [19, 16], some (20, false)⟩,
  ⟨some 25, .pick (.t 20) (.c (.bool true)) (.t 24), [16, 20], none⟩,
  ⟨some 26, .mov (.t 25), [21, 16], none⟩,
  ⟨some 27, .fad (.t 1) 8, [22], some (26, false)⟩,
  ⟨some 28, .ld false 1 (.t 27), [23, 22], some (26, false)⟩,
  ⟨some 29, .lent (.t 28), [24, 22], some (26, false)⟩,
  ⟨some 30, .bin .gtr (.t 29) (.c (.int .i64 100)), [25, 22], some (26, false)⟩,
  ⟨some 31, .pick (.t 26) (.c (.bool true)) (.t 30), [22, 26], none⟩]
def r52_2 : List AR := [⟨some 2, .mov (.c (.bool false)), [], none⟩]
def r52_3 : List AR := [⟨some 3, .mov (.c (.int .i64 0)), [], none⟩]
def r52_4 : List AR := [⟨some 32, .mov (.t 3), [], none⟩,
  ⟨some 33, .fad (.t 1) 12, [], none⟩,
  ⟨some 34, .ld false 1 (.t 33), [1], none⟩,
  ⟨some 35, .lens (.t 34), [2], none⟩,
  ⟨some 36, .bin .lss (.t 32) (.t 35), [0, 3], none⟩]
def r52_5 : List AR := [⟨some 39, .fad (.t 1) 12, [], none⟩,
  ⟨some 40, .ld false 1 (.t 39), [0], none⟩,
  ⟨some 41, .mov (.t 3), [], none⟩,
  ⟨some 42, .iad 4 (.t 40) (.t 41), [1, 2], none⟩,
  ⟨some 43, .fad (.t 42) 0, [3], none⟩,
  ⟨some 44, .ld false 1 (.t 43), [4], none⟩,
  ⟨some 45, .lent (.t 44), [5], none⟩,
  ⟨some 46, .bin .gtr (.t 45) (.c (.int .i64 100)), [6], none⟩,
  ⟨some 47, .mov (.t 46), [7], none⟩,
  ⟨some 48, .fad (.t 1) 12, [8], some (47, false)⟩,
  ⟨some 49, .ld false 1 (.t 48), [9, 8], some (47, false)⟩,
  ⟨some 50, .mov (.t 3), [8], some (47, false)⟩,
  ⟨some 51, .iad 4 (.t 49) (.t 50), [10, 11, 8], some (47, false)⟩,
  ⟨some 52, .fad (.t 51) 1, [12, 8], some (47, false)⟩,
  ⟨some 53, .fad (.t 52) 1, [13, 8], some (47, false)⟩,
  ⟨some 54, .ld false 1 (.t 53), [14, 8], some (47, false)⟩,
  ⟨some 55, .lent (.t 54), [15, 8], some (47, false)⟩,
  ⟨some 56, .bin .gtr (.t 55) (.c (.int .i64 100)), [16, 8], some (47, false)⟩,
  ⟨some 57, .pick (.t 47) (.c (.bool true)) (.t 56), [8, 17], none⟩]
def r52_6 : List AR := [⟨some 2, .mov (.c (.bool false)), [], none⟩]
def r52_7 : List AR := [⟨some 37, .mov (.t 3), [], none⟩,
  ⟨some 38, .bin .add (.t 37) (.c (.int .i64 1)), [0], none⟩,
  ⟨some 3, .mov (.t 38), [1, 0, 1], none⟩]
def r52_8 : List AR := [⟨some 2, .mov (.c (.bool true)), [], none⟩]
def c52 : ACode := .seq (.reg r52_0 false) (.seq (.seq (.reg r52_1 false) (.cond (.t 31) (.seq (.reg r52_2 false) (.ret)) (.skip))) (.seq (.seq (.reg r52_3 false) (.blk 0 (.loop (.seq (.seq (.reg r52_4 false) (.cond (.t 36) (.skip) (.exit 0))) (.seq (.blk 1 (.seq (.reg r52_5 false) (.cond (.t 57) (.seq (.reg r52_6 false) (.ret)) (.skip)))) (.reg r52_7 false)))))) (.seq (.reg r52_8 false) (.ret))))
theorem body52 : Try.f52.body.map (comp Try.prog 58) = some c52 := by kernel_rfl
theorem res52 : allSome (Try.f52.results.toList.map (compRes Try.prog)) = some [.s 2] := by kernel_rfl
theorem cok52 {S : FSpec} (h : ∀ args K, S args K → args.all argOk = true ∧ args.length ≤ 58 ∧ AW Try.prog 58 (some ownP) c52 (initS args) (retPost [.s 2] args K)) : COK Try.prog 52 S := of_body Try.func52 Try.ntmps52 body52 res52 h

def J52_3 (K : Bool → Prop) (N2463 : Int → Prop) (v2454 : Int) (v2470 : Bool) : Prop :=
  Cond v2470 (K false) (N2463 (w64 (v2454 + 1)))

def L52_2 (s_52 : TSpan) (K : Bool → Prop) (v2454 : Int) (N2463 : Int → Prop) : Prop :=
  Cond (decide (v2454 < (s_52.attrs.length : Int))) (Idx s_52.attrs v2454 fun x2471 => Cond (decide ((x2471.key.size : Int) > 100)) (J52_3 K N2463 v2454 true) (J52_3 K N2463 v2454 (decide ((x2471.value.text.size : Int) > 100)))) (K true)

def J52_1 (K : Bool → Prop) (s_52 : TSpan) (v2419 : Bool) : Prop :=
  Cond v2419 (K false) (LoopW (fun (s : Int) N2463 => L52_2 s_52 K s N2463) 0)

/-- sleuth/sleuthlaw01.short -/
def W52 (s_52 : TSpan) (K : Bool → Prop) : Prop :=
  Cond (decide ((s_52.attrs.length : Int) > 8)) (J52_1 K s_52 true) (Cond (decide ((s_52.links.length : Int) > 8)) (J52_1 K s_52 true) (Cond (decide ((s_52.service.size : Int) > 100)) (J52_1 K s_52 true) (Cond (decide ((s_52.version.size : Int) > 100)) (J52_1 K s_52 true) (J52_1 K s_52 (decide ((s_52.operation.size : Int) > 100))))))

def S52 : FSpec := fun args K => ∃ (s_52 : TSpan), ∃ (Kr : Bool → Prop), args = [.agg (List.map RC.d (TSpan.enc s_52))] ∧ W52 s_52 Kr ∧ ∀ r, Kr r → K (.one (.d (.bool r))) []

theorem en52 : enters Try.prog 52 = true := by unfold enters; rw [Try.func52]; rfl
theorem cl52 (s_52 : TSpan) {Kr : Bool → Prop} (h : W52 s_52 Kr) : S52 [.agg (List.map RC.d (TSpan.enc s_52))] (fun rv rows => ∃ r, rv = (.one (.d (.bool r))) ∧ rows = [] ∧ Kr r) := ⟨s_52, Kr, rfl, h, fun r hr => ⟨r, rfl, rfl, hr⟩⟩

theorem ok52 : COK Try.prog 52 S52 := by
  refine cok52 fun args K0 hS => ?_
  obtain ⟨s_52, K, rfl, h, hK⟩ := hS
  refine ⟨by kernel_rfl, by simp, ?_⟩
  unfold W52 at h
  refine AW.sregL [(0, none), (1, none)] (by kernel_rfl) ?_
  refine l_det (some 1) (.one (.ref 1 1 0 0), [(1, 1, .row true 58 14 [[.d (.int .i64 s_52.trace), .d (.int .i64 s_52.id), .d (.int .i64 s_52.parent), .d (.int .i64 s_52.revision), .d (.int .i64 s_52.clock), .d (.int .i64 s_52.kind), .d (.str s_52.service), .d (.str s_52.version), .d (.str s_52.operation), .d (.int .i64 s_52.start), .d (.int .i64 s_52.end_), .d (.bool s_52.error), .d (.sl (List.map TAttr.enc s_52.attrs)), .d (.sl (List.map TRef.enc s_52.links))]])]) (by kernel_rfl) ?_
  refine l_ds 2 (.one (.d (.bool false))) ?_
  refine l_nil ?_
  refine AW.seq ?_
  refine AW.seqL (S := Bool) (fun s => (fun (v2419 : Bool) => [(1, .one (.ref 200001 0 0 0)), (31, .one (.d (.bool v2419)))]) s) (fun s => (fun (v2419 : Bool) => [(200001, .expl true 58 14 [[.d (.int .i64 s_52.trace), .d (.int .i64 s_52.id), .d (.int .i64 s_52.parent), .d (.int .i64 s_52.revision), .d (.int .i64 s_52.clock), .d (.int .i64 s_52.kind), .d (.str s_52.service), .d (.str s_52.version), .d (.str s_52.operation), .d (.int .i64 s_52.start), .d (.int .i64 s_52.end_), .d (.bool s_52.error), .d (.sl (List.map TAttr.enc s_52.attrs)), .d (.sl (List.map TRef.enc s_52.links))]])]) s) (fun s : Bool => J52_1 K s_52 s) ?_ ?_
  · refine AW.regL [(0, none), (1, none), (2, none), (3, none), (4, none), (5, none), (6, none), (7, none), (8, none), (9, none), (10, none), (11, none), (12, none), (13, none), (14, none), (15, none), (16, none), (17, none), (18, none), (19, none), (20, none), (21, none), (22, none), (23, none), (24, none), (25, none), (26, none), (27, none)] (by kernel_rfl) ?_
    refine l_ds 4 (.one (.ref 1 1 0 12)) ?_
    refine l_ds 5 (.one (.d (.sl (List.map TAttr.enc s_52.attrs)))) ?_
    refine l_spec (some 6) (.lens (.t 5)) (.one (.d (.int .i64 (s_52.attrs.length : Int))), []) (by kernel_rfl) (detA_none (d_lens_sl (enc := TAttr.enc) s_52.attrs (by kernel_rfl))) ?_
    refine l_ds 7 (.one (.d (.bool (decide ((s_52.attrs.length : Int) > 8))))) ?_
    refine l_ds 8 (.one (.d (.bool (decide ((s_52.attrs.length : Int) > 8))))) ?_
    refine l_split (s := 8) (by kernel_rfl) h (fun h => ?_) (fun h => ?_)
    · refine l_ds 9 (.tup []) ?_
      refine l_ds 10 (.tup []) ?_
      refine l_ds 11 (.tup []) ?_
      refine l_ds 12 (.tup []) ?_
      refine l_ds 13 (.one (.d (.bool true))) ?_
      refine l_ds 14 (.one (.d (.bool true))) ?_
      refine l_ds 15 (.tup []) ?_
      refine l_ds 16 (.tup []) ?_
      refine l_ds 17 (.tup []) ?_
      refine l_ds 18 (.tup []) ?_
      refine l_ds 19 (.one (.d (.bool true))) ?_
      refine l_ds 20 (.one (.d (.bool true))) ?_
      refine l_ds 21 (.tup []) ?_
      refine l_ds 22 (.tup []) ?_
      refine l_ds 23 (.tup []) ?_
      refine l_ds 24 (.tup []) ?_
      refine l_ds 25 (.one (.d (.bool true))) ?_
      refine l_ds 26 (.one (.d (.bool true))) ?_
      refine l_ds 27 (.tup []) ?_
      refine l_ds 28 (.tup []) ?_
      refine l_ds 29 (.tup []) ?_
      refine l_ds 30 (.tup []) ?_
      refine l_ds 31 (.one (.d (.bool true))) ?_
      refine l_nil ?_
      refine q_fall ?_
      exact Lab.m true [(200001, some 1)] h
    · refine l_ds 9 (.one (.ref 1 1 0 13)) ?_
      refine l_ds 10 (.one (.d (.sl (List.map TRef.enc s_52.links)))) ?_
      refine l_spec (some 11) (.lens (.t 10)) (.one (.d (.int .i64 (s_52.links.length : Int))), []) (by kernel_rfl) (detA_none (d_lens_sl (enc := TRef.enc) s_52.links (by kernel_rfl))) ?_
      refine l_ds 12 (.one (.d (.bool (decide ((s_52.links.length : Int) > 8))))) ?_
      refine l_ds 13 (.one (.d (.bool (decide ((s_52.links.length : Int) > 8))))) ?_
      refine l_ds 14 (.one (.d (.bool (decide ((s_52.links.length : Int) > 8))))) ?_
      refine l_split (s := 14) (by kernel_rfl) h (fun h => ?_) (fun h => ?_)
      · refine l_ds 15 (.tup []) ?_
        refine l_ds 16 (.tup []) ?_
        refine l_ds 17 (.tup []) ?_
        refine l_ds 18 (.tup []) ?_
        refine l_ds 19 (.one (.d (.bool true))) ?_
        refine l_ds 20 (.one (.d (.bool true))) ?_
        refine l_ds 21 (.tup []) ?_
        refine l_ds 22 (.tup []) ?_
        refine l_ds 23 (.tup []) ?_
        refine l_ds 24 (.tup []) ?_
        refine l_ds 25 (.one (.d (.bool true))) ?_
        refine l_ds 26 (.one (.d (.bool true))) ?_
        refine l_ds 27 (.tup []) ?_
        refine l_ds 28 (.tup []) ?_
        refine l_ds 29 (.tup []) ?_
        refine l_ds 30 (.tup []) ?_
        refine l_ds 31 (.one (.d (.bool true))) ?_
        refine l_nil ?_
        refine q_fall ?_
        exact Lab.m true [(200001, some 1)] h
      · refine l_ds 15 (.one (.ref 1 1 0 6)) ?_
        refine l_ds 16 (.one (.d (.str s_52.service))) ?_
        refine l_ds 17 (.one (.d (.int .i64 (s_52.service.size : Int)))) ?_
        refine l_ds 18 (.one (.d (.bool (decide ((s_52.service.size : Int) > 100))))) ?_
        refine l_ds 19 (.one (.d (.bool (decide ((s_52.service.size : Int) > 100))))) ?_
        refine l_ds 20 (.one (.d (.bool (decide ((s_52.service.size : Int) > 100))))) ?_
        refine l_split (s := 20) (by kernel_rfl) h (fun h => ?_) (fun h => ?_)
        · refine l_ds 21 (.tup []) ?_
          refine l_ds 22 (.tup []) ?_
          refine l_ds 23 (.tup []) ?_
          refine l_ds 24 (.tup []) ?_
          refine l_ds 25 (.one (.d (.bool true))) ?_
          refine l_ds 26 (.one (.d (.bool true))) ?_
          refine l_ds 27 (.tup []) ?_
          refine l_ds 28 (.tup []) ?_
          refine l_ds 29 (.tup []) ?_
          refine l_ds 30 (.tup []) ?_
          refine l_ds 31 (.one (.d (.bool true))) ?_
          refine l_nil ?_
          refine q_fall ?_
          exact Lab.m true [(200001, some 1)] h
        · refine l_ds 21 (.one (.ref 1 1 0 7)) ?_
          refine l_ds 22 (.one (.d (.str s_52.version))) ?_
          refine l_ds 23 (.one (.d (.int .i64 (s_52.version.size : Int)))) ?_
          refine l_ds 24 (.one (.d (.bool (decide ((s_52.version.size : Int) > 100))))) ?_
          refine l_ds 25 (.one (.d (.bool (decide ((s_52.version.size : Int) > 100))))) ?_
          refine l_ds 26 (.one (.d (.bool (decide ((s_52.version.size : Int) > 100))))) ?_
          refine l_split (s := 26) (by kernel_rfl) h (fun h => ?_) (fun h => ?_)
          · refine l_ds 27 (.tup []) ?_
            refine l_ds 28 (.tup []) ?_
            refine l_ds 29 (.tup []) ?_
            refine l_ds 30 (.tup []) ?_
            refine l_ds 31 (.one (.d (.bool true))) ?_
            refine l_nil ?_
            refine q_fall ?_
            exact Lab.m true [(200001, some 1)] h
          · refine l_ds 27 (.one (.ref 1 1 0 8)) ?_
            refine l_ds 28 (.one (.d (.str s_52.operation))) ?_
            refine l_ds 29 (.one (.d (.int .i64 (s_52.operation.size : Int)))) ?_
            refine l_ds 30 (.one (.d (.bool (decide ((s_52.operation.size : Int) > 100))))) ?_
            refine l_ds 31 (.one (.d (.bool (decide ((s_52.operation.size : Int) > 100))))) ?_
            refine l_nil ?_
            refine q_fall ?_
            exact Lab.m (decide ((s_52.operation.size : Int) > 100)) [(200001, some 1)] h
  · rintro v2419 h
    have h : J52_1 K s_52 v2419 := h
    unfold J52_1 at h
    refine AW.cond' (by kernel_rfl) h (fun h => ?_) (fun h => ?_)
    · refine AW.sregL [(0, none)] (by kernel_rfl) ?_
      refine l_ds 2 (.one (.d (.bool false))) ?_
      refine l_nil ?_
      refine AW.ret ?_
      refine q_ret ?_
      exact q_end [.one (.d (.bool false))] [false] [.one (.d (.bool false))] [] [] (by kernel_rfl) ⟨by kernel_rfl, by kernel_rfl⟩ (by kernel_rfl) (by kernel_rfl) (by kernel_rfl) (by kernel_rfl) (Eq.mp (by kernel_rfl) (hK false h)) (.inr rfl)
    · refine AW.skip ?_
      refine q_fall ?_
      refine AW.seq ?_
      refine AW.sregL [(0, none)] (by kernel_rfl) ?_
      refine l_ds 3 (.one (.d (.int .i64 0))) ?_
      refine l_nil ?_
      refine AW.blk ?_
      refine AW.loopL (S := Int) (fun s => (fun (v2454 : Int) => [(1, .one (.ref 200001 0 0 0)), (3, .one (.d (.int .i64 v2454)))]) s) (fun s => (fun (v2454 : Int) => [(200001, .expl true 58 14 [[.d (.int .i64 s_52.trace), .d (.int .i64 s_52.id), .d (.int .i64 s_52.parent), .d (.int .i64 s_52.revision), .d (.int .i64 s_52.clock), .d (.int .i64 s_52.kind), .d (.str s_52.service), .d (.str s_52.version), .d (.str s_52.operation), .d (.int .i64 s_52.start), .d (.int .i64 s_52.end_), .d (.bool s_52.error), .d (.sl (List.map TAttr.enc s_52.attrs)), .d (.sl (List.map TRef.enc s_52.links))]])]) s) (fun (s : Int) N2463 => L52_2 s_52 K s N2463) (N := fun s => LoopW (fun (s : Int) N2463 => L52_2 s_52 K s N2463) s) (Lab.m 0 [(200001, some 200001)] h) (fun _ h => h) ?_
      rintro v2454 N2463 h
      have h : L52_2 s_52 K v2454 N2463 := h
      unfold L52_2 at h
      refine AW.seq ?_
      refine AW.sregL [(0, none), (1, none), (2, none), (3, none), (4, none)] (by kernel_rfl) ?_
      refine l_ds 32 (.one (.d (.int .i64 v2454))) ?_
      refine l_ds 33 (.one (.ref 200001 0 0 12)) ?_
      refine l_ds 34 (.one (.d (.sl (List.map TAttr.enc s_52.attrs)))) ?_
      refine l_spec (some 35) (.lens (.t 34)) (.one (.d (.int .i64 (s_52.attrs.length : Int))), []) (by kernel_rfl) (detA_none (d_lens_sl (enc := TAttr.enc) s_52.attrs (by kernel_rfl))) ?_
      refine l_ds 36 (.one (.d (.bool (decide (v2454 < (s_52.attrs.length : Int)))))) ?_
      refine l_nil ?_
      refine AW.cond' (by kernel_rfl) h (fun h => ?_) (fun h => ?_)
      · refine AW.skip ?_
        refine q_fall ?_
        refine AW.seq ?_
        refine AW.blk ?_
        refine AW.seqL (S := Bool) (fun s => (fun (v2470 : Bool) => [(1, .one (.ref 200001 0 0 0)), (3, .one (.d (.int .i64 v2454))), (57, .one (.d (.bool v2470)))]) s) (fun s => (fun (v2470 : Bool) => [(200001, .expl true 58 14 [[.d (.int .i64 s_52.trace), .d (.int .i64 s_52.id), .d (.int .i64 s_52.parent), .d (.int .i64 s_52.revision), .d (.int .i64 s_52.clock), .d (.int .i64 s_52.kind), .d (.str s_52.service), .d (.str s_52.version), .d (.str s_52.operation), .d (.int .i64 s_52.start), .d (.int .i64 s_52.end_), .d (.bool s_52.error), .d (.sl (List.map TAttr.enc s_52.attrs)), .d (.sl (List.map TRef.enc s_52.links))]])]) s) (fun s : Bool => J52_3 K N2463 v2454 s) ?_ ?_
        · refine AW.regL [(0, none), (1, none), (2, none), (3, none), (4, none), (5, none), (6, none), (7, none), (8, none), (9, none), (10, none), (11, none), (12, none), (13, none), (14, none), (15, none), (16, none), (17, none), (18, none)] (by kernel_rfl) ?_
          refine l_ds 39 (.one (.ref 200001 0 0 12)) ?_
          refine l_ds 40 (.one (.d (.sl (List.map TAttr.enc s_52.attrs)))) ?_
          refine l_ds 41 (.one (.d (.int .i64 v2454))) ?_
          obtain ⟨h71, x2471, h72, h⟩ := h
          refine l_spec (some 42) (.iad 4 (.t 40) (.t 41)) (.one (.d (.ptr [.str x2471.key, .int .i64 x2471.value.kind, .str x2471.value.text, .int .i64 x2471.value.int])), []) (by kernel_rfl) (detA_none (d_iad_sl (enc := TAttr.enc) (k := .i64) s_52.attrs x2471 (by kernel_rfl) (by kernel_rfl) h71 h72 rfl)) ?_
          refine l_ds 43 (.one (.d (.ptr [.str x2471.key, .int .i64 x2471.value.kind, .str x2471.value.text, .int .i64 x2471.value.int]))) ?_
          refine l_ds 44 (.one (.d (.str x2471.key))) ?_
          refine l_ds 45 (.one (.d (.int .i64 (x2471.key.size : Int)))) ?_
          refine l_ds 46 (.one (.d (.bool (decide ((x2471.key.size : Int) > 100))))) ?_
          refine l_ds 47 (.one (.d (.bool (decide ((x2471.key.size : Int) > 100))))) ?_
          refine l_split (s := 47) (by kernel_rfl) h (fun h => ?_) (fun h => ?_)
          · refine l_ds 48 (.tup []) ?_
            refine l_ds 49 (.tup []) ?_
            refine l_ds 50 (.tup []) ?_
            refine l_ds 51 (.tup []) ?_
            refine l_ds 52 (.tup []) ?_
            refine l_ds 53 (.tup []) ?_
            refine l_ds 54 (.tup []) ?_
            refine l_ds 55 (.tup []) ?_
            refine l_ds 56 (.tup []) ?_
            refine l_ds 57 (.one (.d (.bool true))) ?_
            refine l_nil ?_
            refine q_fall ?_
            exact Lab.m true [(200001, some 200001)] h
          · refine l_ds 48 (.one (.ref 200001 0 0 12)) ?_
            refine l_ds 49 (.one (.d (.sl (List.map TAttr.enc s_52.attrs)))) ?_
            refine l_ds 50 (.one (.d (.int .i64 v2454))) ?_
            refine l_spec (some 51) (.iad 4 (.t 49) (.t 50)) (.one (.d (.ptr [.str x2471.key, .int .i64 x2471.value.kind, .str x2471.value.text, .int .i64 x2471.value.int])), []) (by kernel_rfl) (detA_none (d_iad_sl (enc := TAttr.enc) (k := .i64) s_52.attrs x2471 (by kernel_rfl) (by kernel_rfl) h71 h72 rfl)) ?_
            refine l_ds 52 (.one (.d (.ptr [.int .i64 x2471.value.kind, .str x2471.value.text, .int .i64 x2471.value.int]))) ?_
            refine l_ds 53 (.one (.d (.ptr [.str x2471.value.text, .int .i64 x2471.value.int]))) ?_
            refine l_ds 54 (.one (.d (.str x2471.value.text))) ?_
            refine l_ds 55 (.one (.d (.int .i64 (x2471.value.text.size : Int)))) ?_
            refine l_ds 56 (.one (.d (.bool (decide ((x2471.value.text.size : Int) > 100))))) ?_
            refine l_ds 57 (.one (.d (.bool (decide ((x2471.value.text.size : Int) > 100))))) ?_
            refine l_nil ?_
            refine q_fall ?_
            exact Lab.m (decide ((x2471.value.text.size : Int) > 100)) [(200001, some 200001)] h
        · rintro v2470 h
          have h : J52_3 K N2463 v2454 v2470 := h
          unfold J52_3 at h
          refine AW.cond' (by kernel_rfl) h (fun h => ?_) (fun h => ?_)
          · refine AW.sregL [(0, none)] (by kernel_rfl) ?_
            refine l_ds 2 (.one (.d (.bool false))) ?_
            refine l_nil ?_
            refine AW.ret ?_
            refine q_bret ?_
            refine q_ret ?_
            refine q_ret ?_
            refine q_bret ?_
            refine q_ret ?_
            exact q_end [.one (.d (.bool false))] [false] [.one (.d (.bool false))] [] [] (by kernel_rfl) ⟨by kernel_rfl, by kernel_rfl⟩ (by kernel_rfl) (by kernel_rfl) (by kernel_rfl) (by kernel_rfl) (Eq.mp (by kernel_rfl) (hK false h)) (.inr rfl)
          · refine AW.skip ?_
            refine q_bfall ?_
            refine q_fall ?_
            refine AW.regL [(0, none), (1, none), (2, none)] (by kernel_rfl) ?_
            refine l_ds 37 (.one (.d (.int .i64 v2454))) ?_
            refine l_ds 38 (.one (.d (.int .i64 (w64 (v2454 + 1))))) ?_
            refine l_ds 3 (.one (.d (.int .i64 (w64 (v2454 + 1))))) ?_
            refine l_nil ?_
            refine q_fall ?_
            exact Lab.m (w64 (v2454 + 1)) [(200001, some 200001)] h
      · refine AW.exit ?_
        refine q_exit ?_
        refine q_exit ?_
        refine q_bhere ?_
        refine q_fall ?_
        refine AW.sregL [(0, none)] (by kernel_rfl) ?_
        refine l_ds 2 (.one (.d (.bool true))) ?_
        refine l_nil ?_
        refine AW.ret ?_
        exact q_end [.one (.d (.bool true))] [false] [.one (.d (.bool true))] [] [] (by kernel_rfl) ⟨by kernel_rfl, by kernel_rfl⟩ (by kernel_rfl) (by kernel_rfl) (by kernel_rfl) (by kernel_rfl) (Eq.mp (by kernel_rfl) (hK true h)) (.inr rfl)
def r29_0 : List AR := [⟨some 1, .box 58 true 14 (.t 0), [], none⟩,
  ⟨some 2, .mov (.c (.bool false)), [], none⟩]
def r29_1 : List AR := [⟨some 3, .ld true 14 (.t 1), [], none⟩,
  ⟨some 4, .call 52 [.t 3], [0], none⟩,
  ⟨some 2, .mov (.t 4), [1, 1, 0, 1], none⟩]
def c29 : ACode := .seq (.reg r29_0 false) (.seq (.reg r29_1 false) (.ret))
theorem body29 : Try.f29.body.map (comp Try.prog 5) = some c29 := by kernel_rfl
theorem res29 : allSome (Try.f29.results.toList.map (compRes Try.prog)) = some [.s 2] := by kernel_rfl
theorem cok29 {S : FSpec} (h : ∀ args K, S args K → args.all argOk = true ∧ args.length ≤ 5 ∧ AW Try.prog 5 (some ownP) c29 (initS args) (retPost [.s 2] args K)) : COK Try.prog 29 S := of_body Try.func29 Try.ntmps29 body29 res29 h

/-- sleuth/sleuthlaw01.Short -/
def W29 (s_29 : TSpan) (K : Bool → Prop) : Prop :=
  W52 s_29 fun r2473 => K r2473

def S29 : FSpec := fun args K => ∃ (s_29 : TSpan), ∃ (Kr : Bool → Prop), args = [.agg (List.map RC.d (TSpan.enc s_29))] ∧ W29 s_29 Kr ∧ ∀ r, Kr r → K (.one (.d (.bool r))) []

theorem en29 : enters Try.prog 29 = true := by unfold enters; rw [Try.func29]; rfl
theorem cl29 (s_29 : TSpan) {Kr : Bool → Prop} (h : W29 s_29 Kr) : S29 [.agg (List.map RC.d (TSpan.enc s_29))] (fun rv rows => ∃ r, rv = (.one (.d (.bool r))) ∧ rows = [] ∧ Kr r) := ⟨s_29, Kr, rfl, h, fun r hr => ⟨r, rfl, rfl, hr⟩⟩

theorem ok29 : COK Try.prog 29 S29 := by
  refine cok29 fun args K0 hS => ?_
  obtain ⟨s_29, K, rfl, h, hK⟩ := hS
  refine ⟨by kernel_rfl, by simp, ?_⟩
  unfold W29 at h
  refine AW.sregL [(0, none), (1, none)] (by kernel_rfl) ?_
  refine l_det (some 1) (.one (.ref 1 1 0 0), [(1, 1, .row true 58 14 [[.d (.int .i64 s_29.trace), .d (.int .i64 s_29.id), .d (.int .i64 s_29.parent), .d (.int .i64 s_29.revision), .d (.int .i64 s_29.clock), .d (.int .i64 s_29.kind), .d (.str s_29.service), .d (.str s_29.version), .d (.str s_29.operation), .d (.int .i64 s_29.start), .d (.int .i64 s_29.end_), .d (.bool s_29.error), .d (.sl (List.map TAttr.enc s_29.attrs)), .d (.sl (List.map TRef.enc s_29.links))]])]) (by kernel_rfl) ?_
  refine l_ds 2 (.one (.d (.bool false))) ?_
  refine l_nil ?_
  refine AW.sregL [(0, none), (1, none), (2, none)] (by kernel_rfl) ?_
  refine l_ds 3 (.agg [.d (.int .i64 s_29.trace), .d (.int .i64 s_29.id), .d (.int .i64 s_29.parent), .d (.int .i64 s_29.revision), .d (.int .i64 s_29.clock), .d (.int .i64 s_29.kind), .d (.str s_29.service), .d (.str s_29.version), .d (.str s_29.operation), .d (.int .i64 s_29.start), .d (.int .i64 s_29.end_), .d (.bool s_29.error), .d (.sl (List.map TAttr.enc s_29.attrs)), .d (.sl (List.map TRef.enc s_29.links))]) ?_
  refine l_call ok52 en52 (some 4) [.agg [.d (.int .i64 s_29.trace), .d (.int .i64 s_29.id), .d (.int .i64 s_29.parent), .d (.int .i64 s_29.revision), .d (.int .i64 s_29.clock), .d (.int .i64 s_29.kind), .d (.str s_29.service), .d (.str s_29.version), .d (.str s_29.operation), .d (.int .i64 s_29.start), .d (.int .i64 s_29.end_), .d (.bool s_29.error), .d (.sl (List.map TAttr.enc s_29.attrs)), .d (.sl (List.map TRef.enc s_29.links))]] [false] [.agg (List.map RC.d [.int .i64 s_29.trace, .int .i64 s_29.id, .int .i64 s_29.parent, .int .i64 s_29.revision, .int .i64 s_29.clock, .int .i64 s_29.kind, .str s_29.service, .str s_29.version, .str s_29.operation, .int .i64 s_29.start, .int .i64 s_29.end_, .bool s_29.error, .sl (List.map TAttr.enc s_29.attrs), .sl (List.map TRef.enc s_29.links)])] [] (by kernel_rfl) ⟨by kernel_rfl, by kernel_rfl⟩ (by kernel_rfl) (by kernel_rfl) (by kernel_rfl) (cl52 s_29 h) ?_
  rintro hR _ _ ⟨r2473, rfl, rfl, h⟩
  refine ⟨false, (.one (.d (.bool r2473)), []), (fun hz => (by cases hz)), (ret_R hR (by kernel_rfl)), ?_⟩
  refine l_ds 2 (.one (.d (.bool r2473))) ?_
  refine l_nil ?_
  refine AW.ret ?_
  exact q_end [.one (.d (.bool r2473))] [false] [.one (.d (.bool r2473))] [] [] (by kernel_rfl) ⟨by kernel_rfl, by kernel_rfl⟩ (by kernel_rfl) (by kernel_rfl) (by kernel_rfl) (by kernel_rfl) (Eq.mp (by kernel_rfl) (hK r2473 h)) (.inr rfl)
def r53_0 : List AR := [⟨some 2, .mov (.c (.bool false)), [], none⟩]
def r53_1 : List AR := [⟨some 3, .mov (.t 0), [], none⟩,
  ⟨some 4, .bin .lss (.t 3) (.c (.int .i64 1)), [0], none⟩,
  ⟨some 5, .mov (.t 4), [1], none⟩,
  ⟨some 6, .mov (.t 0), [2], some (5, false)⟩,
  ⟨some 7, .bin .gtr (.t 6) (.c (.int .i64 1099511627776)), [3, 2], some (5, false)⟩,
  ⟨some 8, .pick (.t 5) (.c (.bool true)) (.t 7), [2, 4], none⟩,
  ⟨some 2, .mov (.t 8), [5, 2, 0, 1, 2, 3, 4, 5], none⟩]
def c53 : ACode := .seq (.reg r53_0 false) (.seq (.reg r53_1 false) (.ret))
theorem body53 : Try.f53.body.map (comp Try.prog 9) = some c53 := by kernel_rfl
theorem res53 : allSome (Try.f53.results.toList.map (compRes Try.prog)) = some [.s 2] := by kernel_rfl
theorem cok53 {S : FSpec} (h : ∀ args K, S args K → args.all argOk = true ∧ args.length ≤ 9 ∧ AW Try.prog 9 (some ownP) c53 (initS args) (retPost [.s 2] args K)) : COK Try.prog 53 S := of_body Try.func53 Try.ntmps53 body53 res53 h

def J53_1 (K : Bool → Prop) (v2839 : Bool) : Prop :=
  K v2839

/-- sleuth/span.badId -/
def W53 (n_53 : Int) (K : Bool → Prop) : Prop :=
  Cond (decide (n_53 < 1)) (J53_1 K true) (J53_1 K (decide (n_53 > 1099511627776)))

def S53 : FSpec := fun args K => ∃ (n_53 : Int), ∃ (Kr : Bool → Prop), args = [.one (.d (.int .i64 n_53))] ∧ W53 n_53 Kr ∧ ∀ r, Kr r → K (.one (.d (.bool r))) []

theorem en53 : enters Try.prog 53 = true := by unfold enters; rw [Try.func53]; rfl
theorem cl53 (n_53 : Int) {Kr : Bool → Prop} (h : W53 n_53 Kr) : S53 [.one (.d (.int .i64 n_53))] (fun rv rows => ∃ r, rv = (.one (.d (.bool r))) ∧ rows = [] ∧ Kr r) := ⟨n_53, Kr, rfl, h, fun r hr => ⟨r, rfl, rfl, hr⟩⟩

theorem ok53 : COK Try.prog 53 S53 := by
  refine cok53 fun args K0 hS => ?_
  obtain ⟨n_53, K, rfl, h, hK⟩ := hS
  refine ⟨by kernel_rfl, by simp, ?_⟩
  unfold W53 at h
  refine AW.sregL [(0, none)] (by kernel_rfl) ?_
  refine l_ds 2 (.one (.d (.bool false))) ?_
  refine l_nil ?_
  refine AW.seqL (S := Bool) (fun s => (fun (v2839 : Bool) => [(2, .one (.d (.bool v2839)))]) s) (fun s => (fun (v2839 : Bool) => []) s) (fun s : Bool => J53_1 K s) ?_ ?_
  · refine AW.regL [(0, none), (1, none), (2, none), (3, none), (4, none), (5, none), (6, none)] (by kernel_rfl) ?_
    refine l_ds 3 (.one (.d (.int .i64 n_53))) ?_
    refine l_ds 4 (.one (.d (.bool (decide (n_53 < 1))))) ?_
    refine l_ds 5 (.one (.d (.bool (decide (n_53 < 1))))) ?_
    refine l_split (s := 5) (by kernel_rfl) h (fun h => ?_) (fun h => ?_)
    · refine l_ds 6 (.tup []) ?_
      refine l_ds 7 (.tup []) ?_
      refine l_ds 8 (.one (.d (.bool true))) ?_
      refine l_ds 2 (.one (.d (.bool true))) ?_
      refine l_nil ?_
      refine q_fall ?_
      exact Lab.m true [] h
    · refine l_ds 6 (.one (.d (.int .i64 n_53))) ?_
      refine l_ds 7 (.one (.d (.bool (decide (n_53 > 1099511627776))))) ?_
      refine l_ds 8 (.one (.d (.bool (decide (n_53 > 1099511627776))))) ?_
      refine l_ds 2 (.one (.d (.bool (decide (n_53 > 1099511627776))))) ?_
      refine l_nil ?_
      refine q_fall ?_
      exact Lab.m (decide (n_53 > 1099511627776)) [] h
  · rintro v2839 h
    have h : J53_1 K v2839 := h
    unfold J53_1 at h
    refine AW.ret ?_
    exact q_end [.one (.d (.bool v2839))] [false] [.one (.d (.bool v2839))] [] [] (by kernel_rfl) ⟨by kernel_rfl, by kernel_rfl⟩ (by kernel_rfl) (by kernel_rfl) (by kernel_rfl) (by kernel_rfl) (Eq.mp (by kernel_rfl) (hK v2839 h)) (.inr rfl)
def r75_0 : List AR := [⟨some 6, .mov (.c (.bool false)), [], none⟩]
def r75_1 : List AR := [⟨some 8, .mov (.t 0), [], none⟩,
  ⟨some 9, .lent (.t 8), [0], none⟩,
  ⟨some 10, .mov (.c (.int .i64 0)), [], none⟩]
def r75_2 : List AR := [⟨some 11, .bin .lss (.t 10) (.t 9), [], none⟩]
def r75_3 : List AR := [⟨some 12, .mov (.t 10), [], none⟩,
  ⟨some 7, .mov (.t 12), [0, 0], none⟩]
def r75_4 : List AR := [⟨some 13, .mov (.t 0), [], none⟩,
  ⟨some 14, .mov (.t 7), [], none⟩,
  ⟨some 15, .ixs (.t 13) (.t 14), [0, 1], none⟩,
  ⟨some 16, .mov (.t 1), [], none⟩,
  ⟨some 17, .bin .lss (.t 15) (.t 16), [2, 3], none⟩,
  ⟨some 18, .mov (.t 17), [4], none⟩,
  ⟨some 19, .mov (.t 0), [5], some (18, false)⟩,
  ⟨some 20, .mov (.t 7), [5], some (18, false)⟩,
  ⟨some 21, .ixs (.t 19) (.t 20), [6, 7, 5], some (18, false)⟩,
  ⟨some 22, .mov (.t 2), [5], some (18, false)⟩,
  ⟨some 23, .bin .gtr (.t 21) (.t 22), [8, 9, 5], some (18, false)⟩,
  ⟨some 24, .pick (.t 18) (.c (.bool true)) (.t 23), [5, 10], none⟩]
def r75_5 : List AR := [⟨some 6, .mov (.c (.bool false)), [], none⟩]
def r75_6 : List AR := [⟨some 25, .bin .add (.t 10) (.c (.int .i64 1)), [], none⟩,
  ⟨some 10, .mov (.t 25), [0], none⟩]
def r75_7 : List AR := [⟨some 6, .mov (.c (.bool true)), [], none⟩]
def c75 : ACode := .seq (.reg r75_0 false) (.seq (.seq (.reg r75_1 false) (.blk 0 (.loop (.seq (.reg r75_2 false) (.seq (.cond (.t 11) (.skip) (.exit 0)) (.seq (.blk 1 (.seq (.reg r75_3 false) (.seq (.reg r75_4 false) (.cond (.t 24) (.seq (.reg r75_5 false) (.ret)) (.skip))))) (.reg r75_6 false))))))) (.seq (.reg r75_7 false) (.ret)))
theorem body75 : Try.f75.body.map (comp Try.prog 26) = some c75 := by kernel_rfl
theorem res75 : allSome (Try.f75.results.toList.map (compRes Try.prog)) = some [.s 6] := by kernel_rfl
theorem cok75 {S : FSpec} (h : ∀ args K, S args K → args.all argOk = true ∧ args.length ≤ 26 ∧ AW Try.prog 26 (some ownP) c75 (initS args) (retPost [.s 6] args K)) : COK Try.prog 75 S := of_body Try.func75 Try.ntmps75 body75 res75 h

def J75_2 (K : Bool → Prop) (N2919 : Int → Prop) (v2904 : Int) (v2931 : Bool) : Prop :=
  Cond v2931 (K false) (N2919 (w64 (v2904 + 1)))

def L75_1 (s_75 : ByteArray) (low_75 : Int) (K : Bool → Prop) (high_75 : Int) (v2904 : Int) (N2919 : Int → Prop) : Prop :=
  Cond (decide (v2904 < (s_75.size : Int))) (Chr s_75 v2904 fun b2932 => Cond (decide ((b2932.toNat : Int) < low_75)) (J75_2 K N2919 v2904 true) (Chr s_75 v2904 fun b2933 => J75_2 K N2919 v2904 (decide ((b2933.toNat : Int) > high_75)))) (K true)

/-- sleuth/attribute.within -/
def W75 (s_75 : ByteArray) (low_75 : Int) (high_75 : Int) (K : Bool → Prop) : Prop :=
  LoopW (fun (s : Int) N2919 => L75_1 s_75 low_75 K high_75 s N2919) 0

def S75 : FSpec := fun args K => ∃ (s_75 : ByteArray), ∃ (low_75 : Int), ∃ (high_75 : Int), ∃ (Kr : Bool → Prop), args = [.one (.d (.str s_75)), .one (.d (.int .u8 low_75)), .one (.d (.int .u8 high_75))] ∧ W75 s_75 low_75 high_75 Kr ∧ ∀ r, Kr r → K (.one (.d (.bool r))) []

theorem en75 : enters Try.prog 75 = true := by unfold enters; rw [Try.func75]; rfl
theorem cl75 (s_75 : ByteArray) (low_75 : Int) (high_75 : Int) {Kr : Bool → Prop} (h : W75 s_75 low_75 high_75 Kr) : S75 [.one (.d (.str s_75)), .one (.d (.int .u8 low_75)), .one (.d (.int .u8 high_75))] (fun rv rows => ∃ r, rv = (.one (.d (.bool r))) ∧ rows = [] ∧ Kr r) := ⟨s_75, low_75, high_75, Kr, rfl, h, fun r hr => ⟨r, rfl, rfl, hr⟩⟩

theorem ok75 : COK Try.prog 75 S75 := by
  refine cok75 fun args K0 hS => ?_
  obtain ⟨s_75, low_75, high_75, K, rfl, h, hK⟩ := hS
  refine ⟨by kernel_rfl, by simp, ?_⟩
  unfold W75 at h
  refine AW.sregL [(0, none)] (by kernel_rfl) ?_
  refine l_ds 6 (.one (.d (.bool false))) ?_
  refine l_nil ?_
  refine AW.seq ?_
  refine AW.sregL [(0, none), (1, none), (2, none)] (by kernel_rfl) ?_
  refine l_ds 8 (.one (.d (.str s_75))) ?_
  refine l_ds 9 (.one (.d (.int .i64 (s_75.size : Int)))) ?_
  refine l_ds 10 (.one (.d (.int .i64 0))) ?_
  refine l_nil ?_
  refine AW.blk ?_
  refine AW.loopL (S := Int) (fun s => (fun (v2904 : Int) => [(0, .one (.d (.str s_75))), (1, .one (.d (.int .u8 low_75))), (2, .one (.d (.int .u8 high_75))), (9, .one (.d (.int .i64 (s_75.size : Int)))), (10, .one (.d (.int .i64 v2904)))]) s) (fun s => (fun (v2904 : Int) => []) s) (fun (s : Int) N2919 => L75_1 s_75 low_75 K high_75 s N2919) (N := fun s => LoopW (fun (s : Int) N2919 => L75_1 s_75 low_75 K high_75 s N2919) s) (Lab.m 0 [] h) (fun _ h => h) ?_
  rintro v2904 N2919 h
  have h : L75_1 s_75 low_75 K high_75 v2904 N2919 := h
  unfold L75_1 at h
  refine AW.sregL [(0, none)] (by kernel_rfl) ?_
  refine l_ds 11 (.one (.d (.bool (decide (v2904 < (s_75.size : Int)))))) ?_
  refine l_nil ?_
  refine AW.seq ?_
  refine AW.cond' (by kernel_rfl) h (fun h => ?_) (fun h => ?_)
  · refine AW.skip ?_
    refine q_fall ?_
    refine AW.seq ?_
    refine AW.blk ?_
    refine AW.sregL [(0, none), (1, none)] (by kernel_rfl) ?_
    refine l_ds 12 (.one (.d (.int .i64 v2904))) ?_
    refine l_ds 7 (.one (.d (.int .i64 v2904))) ?_
    refine l_nil ?_
    refine AW.seqL (S := Bool) (fun s => (fun (v2931 : Bool) => [(0, .one (.d (.str s_75))), (1, .one (.d (.int .u8 low_75))), (2, .one (.d (.int .u8 high_75))), (9, .one (.d (.int .i64 (s_75.size : Int)))), (10, .one (.d (.int .i64 v2904))), (24, .one (.d (.bool v2931)))]) s) (fun s => (fun (v2931 : Bool) => []) s) (fun s : Bool => J75_2 K N2919 v2904 s) ?_ ?_
    · refine AW.regL [(0, none), (1, none), (2, none), (3, none), (4, none), (5, none), (6, none), (7, none), (8, none), (9, none), (10, none), (11, none)] (by kernel_rfl) ?_
      refine l_ds 13 (.one (.d (.str s_75))) ?_
      refine l_ds 14 (.one (.d (.int .i64 v2904))) ?_
      obtain ⟨h141, b2932, h142, h⟩ := h
      refine l_spec (some 15) (.ixs (.t 13) (.t 14)) (.one (.d (.int .u8 (b2932.toNat : Int))), []) (by kernel_rfl) (detA_none (d_ixs (k := .i64) s_75 b2932 (by kernel_rfl) (by kernel_rfl) h141 h142)) ?_
      refine l_ds 16 (.one (.d (.int .u8 low_75))) ?_
      refine l_ds 17 (.one (.d (.bool (decide ((b2932.toNat : Int) < low_75))))) ?_
      refine l_ds 18 (.one (.d (.bool (decide ((b2932.toNat : Int) < low_75))))) ?_
      refine l_split (s := 18) (by kernel_rfl) h (fun h => ?_) (fun h => ?_)
      · refine l_ds 19 (.tup []) ?_
        refine l_ds 20 (.tup []) ?_
        refine l_ds 21 (.tup []) ?_
        refine l_ds 22 (.tup []) ?_
        refine l_ds 23 (.tup []) ?_
        refine l_ds 24 (.one (.d (.bool true))) ?_
        refine l_nil ?_
        refine q_fall ?_
        exact Lab.m true [] h
      · refine l_ds 19 (.one (.d (.str s_75))) ?_
        refine l_ds 20 (.one (.d (.int .i64 v2904))) ?_
        obtain ⟨h143, b2933, h144, h⟩ := h
        refine l_spec (some 21) (.ixs (.t 19) (.t 20)) (.one (.d (.int .u8 (b2933.toNat : Int))), []) (by kernel_rfl) (detA_none (d_ixs (k := .i64) s_75 b2933 (by kernel_rfl) (by kernel_rfl) h143 h144)) ?_
        refine l_ds 22 (.one (.d (.int .u8 high_75))) ?_
        refine l_ds 23 (.one (.d (.bool (decide ((b2933.toNat : Int) > high_75))))) ?_
        refine l_ds 24 (.one (.d (.bool (decide ((b2933.toNat : Int) > high_75))))) ?_
        refine l_nil ?_
        refine q_fall ?_
        exact Lab.m (decide ((b2933.toNat : Int) > high_75)) [] h
    · rintro v2931 h
      have h : J75_2 K N2919 v2904 v2931 := h
      unfold J75_2 at h
      refine AW.cond' (by kernel_rfl) h (fun h => ?_) (fun h => ?_)
      · refine AW.sregL [(0, none)] (by kernel_rfl) ?_
        refine l_ds 6 (.one (.d (.bool false))) ?_
        refine l_nil ?_
        refine AW.ret ?_
        refine q_bret ?_
        refine q_ret ?_
        refine q_ret ?_
        refine q_bret ?_
        refine q_ret ?_
        exact q_end [.one (.d (.bool false))] [false] [.one (.d (.bool false))] [] [] (by kernel_rfl) ⟨by kernel_rfl, by kernel_rfl⟩ (by kernel_rfl) (by kernel_rfl) (by kernel_rfl) (by kernel_rfl) (Eq.mp (by kernel_rfl) (hK false h)) (.inr rfl)
      · refine AW.skip ?_
        refine q_bfall ?_
        refine q_fall ?_
        refine AW.regL [(0, none), (1, none)] (by kernel_rfl) ?_
        refine l_ds 25 (.one (.d (.int .i64 (w64 (v2904 + 1))))) ?_
        refine l_ds 10 (.one (.d (.int .i64 (w64 (v2904 + 1))))) ?_
        refine l_nil ?_
        refine q_fall ?_
        exact Lab.m (w64 (v2904 + 1)) [] h
  · refine AW.exit ?_
    refine q_exit ?_
    refine q_exit ?_
    refine q_bhere ?_
    refine q_fall ?_
    refine AW.sregL [(0, none)] (by kernel_rfl) ?_
    refine l_ds 6 (.one (.d (.bool true))) ?_
    refine l_nil ?_
    refine AW.ret ?_
    exact q_end [.one (.d (.bool true))] [false] [.one (.d (.bool true))] [] [] (by kernel_rfl) ⟨by kernel_rfl, by kernel_rfl⟩ (by kernel_rfl) (by kernel_rfl) (by kernel_rfl) (by kernel_rfl) (Eq.mp (by kernel_rfl) (hK true h)) (.inr rfl)
def r54_0 : List AR := [⟨some 2, .mov (.c (.bool false)), [], none⟩]
def r54_1 : List AR := [⟨some 3, .mov (.t 0), [], none⟩,
  ⟨some 4, .bin .neq (.t 3) (.c (.str ⟨#[]⟩)), [0], none⟩,
  ⟨some 5, .mov (.t 4), [1], none⟩,
  ⟨some 6, .mov (.t 0), [2], some (5, true)⟩,
  ⟨some 7, .lent (.t 6), [3, 2], some (5, true)⟩,
  ⟨some 8, .bin .leq (.t 7) (.c (.int .i64 64)), [4, 2], some (5, true)⟩,
  ⟨some 9, .pick (.t 5) (.t 8) (.c (.bool false)), [2, 5], none⟩,
  ⟨some 10, .mov (.t 9), [6, 2], none⟩,
  ⟨some 11, .mov (.t 0), [7], some (10, true)⟩,
  ⟨some 12, .call 75 [.t 11, .c (.int .u8 33), .c (.int .u8 126)], [8, 7, 7], some (10, true)⟩,
  ⟨some 13, .pick (.t 10) (.t 12) (.c (.bool false)), [7, 9], none⟩,
  ⟨some 2, .mov (.t 13), [10, 9, 0, 1, 2, 3, 4, 5, 6, 7, 8, 9, 10], none⟩]
def c54 : ACode := .seq (.reg r54_0 false) (.seq (.reg r54_1 false) (.ret))
theorem body54 : Try.f54.body.map (comp Try.prog 14) = some c54 := by kernel_rfl
theorem res54 : allSome (Try.f54.results.toList.map (compRes Try.prog)) = some [.s 2] := by kernel_rfl
theorem cok54 {S : FSpec} (h : ∀ args K, S args K → args.all argOk = true ∧ args.length ≤ 14 ∧ AW Try.prog 14 (some ownP) c54 (initS args) (retPost [.s 2] args K)) : COK Try.prog 54 S := of_body Try.func54 Try.ntmps54 body54 res54 h

def J54_1 (K : Bool → Prop) (v2936 : Bool) : Prop :=
  K v2936

/-- sleuth/attribute.IsName -/
def W54 (s_54 : ByteArray) (K : Bool → Prop) : Prop :=
  Cond (decide (¬ s_54 = (⟨#[]⟩ : ByteArray))) (Cond (decide ((s_54.size : Int) ≤ 64)) (W75 s_54 33 126 fun r2937 => J54_1 K r2937) (J54_1 K false)) (J54_1 K false)

def S54 : FSpec := fun args K => ∃ (s_54 : ByteArray), ∃ (Kr : Bool → Prop), args = [.one (.d (.str s_54))] ∧ W54 s_54 Kr ∧ ∀ r, Kr r → K (.one (.d (.bool r))) []

theorem en54 : enters Try.prog 54 = true := by unfold enters; rw [Try.func54]; rfl
theorem cl54 (s_54 : ByteArray) {Kr : Bool → Prop} (h : W54 s_54 Kr) : S54 [.one (.d (.str s_54))] (fun rv rows => ∃ r, rv = (.one (.d (.bool r))) ∧ rows = [] ∧ Kr r) := ⟨s_54, Kr, rfl, h, fun r hr => ⟨r, rfl, rfl, hr⟩⟩

theorem ok54 : COK Try.prog 54 S54 := by
  refine cok54 fun args K0 hS => ?_
  obtain ⟨s_54, K, rfl, h, hK⟩ := hS
  refine ⟨by kernel_rfl, by simp, ?_⟩
  unfold W54 at h
  refine AW.sregL [(0, none)] (by kernel_rfl) ?_
  refine l_ds 2 (.one (.d (.bool false))) ?_
  refine l_nil ?_
  refine AW.seqL (S := Bool) (fun s => (fun (v2936 : Bool) => [(2, .one (.d (.bool v2936)))]) s) (fun s => (fun (v2936 : Bool) => []) s) (fun s : Bool => J54_1 K s) ?_ ?_
  · refine AW.regL [(0, none), (1, none), (2, none), (3, none), (4, none), (5, none), (6, none), (7, none), (8, none), (9, none), (10, none), (11, none)] (by kernel_rfl) ?_
    refine l_ds 3 (.one (.d (.str s_54))) ?_
    refine l_ds 4 (.one (.d (.bool (decide (¬ s_54 = (⟨#[]⟩ : ByteArray)))))) ?_
    refine l_ds 5 (.one (.d (.bool (decide (¬ s_54 = (⟨#[]⟩ : ByteArray)))))) ?_
    refine l_split (s := 5) (by kernel_rfl) h (fun h => ?_) (fun h => ?_)
    · refine l_ds 6 (.one (.d (.str s_54))) ?_
      refine l_ds 7 (.one (.d (.int .i64 (s_54.size : Int)))) ?_
      refine l_ds 8 (.one (.d (.bool (decide ((s_54.size : Int) ≤ 64))))) ?_
      refine l_ds 9 (.one (.d (.bool (decide ((s_54.size : Int) ≤ 64))))) ?_
      refine l_ds 10 (.one (.d (.bool (decide ((s_54.size : Int) ≤ 64))))) ?_
      refine l_split (s := 10) (by kernel_rfl) h (fun h => ?_) (fun h => ?_)
      · refine l_ds 11 (.one (.d (.str s_54))) ?_
        refine l_call ok75 en75 (some 12) [.one (.d (.str s_54)), .one (.d (.int .u8 33)), .one (.d (.int .u8 126))] [false, false, false] [.one (.d (.str s_54)), .one (.d (.int .u8 33)), .one (.d (.int .u8 126))] [] (by kernel_rfl) ⟨by kernel_rfl, by kernel_rfl⟩ (by kernel_rfl) (by kernel_rfl) (by kernel_rfl) (cl75 s_54 33 126 h) ?_
        rintro hR _ _ ⟨r2937, rfl, rfl, h⟩
        refine ⟨false, (.one (.d (.bool r2937)), []), (fun hz => (by cases hz)), (ret_R hR (by kernel_rfl)), ?_⟩
        refine l_ds 13 (.one (.d (.bool r2937))) ?_
        refine l_ds 2 (.one (.d (.bool r2937))) ?_
        refine l_nil ?_
        refine q_fall ?_
        exact Lab.m r2937 [] h
      · refine l_ds 11 (.tup []) ?_
        refine l_skip (some 12) (by kernel_rfl) (by kernel_rfl) (by kernel_rfl) ?_
        refine l_ds 13 (.one (.d (.bool false))) ?_
        refine l_ds 2 (.one (.d (.bool false))) ?_
        refine l_nil ?_
        refine q_fall ?_
        exact Lab.m false [] h
    · refine l_ds 6 (.tup []) ?_
      refine l_ds 7 (.tup []) ?_
      refine l_ds 8 (.tup []) ?_
      refine l_ds 9 (.one (.d (.bool false))) ?_
      refine l_ds 10 (.one (.d (.bool false))) ?_
      refine l_ds 11 (.tup []) ?_
      refine l_skip (some 12) (by kernel_rfl) (by kernel_rfl) (by kernel_rfl) ?_
      refine l_ds 13 (.one (.d (.bool false))) ?_
      refine l_ds 2 (.one (.d (.bool false))) ?_
      refine l_nil ?_
      refine q_fall ?_
      exact Lab.m false [] h
  · rintro v2936 h
    have h : J54_1 K v2936 := h
    unfold J54_1 at h
    refine AW.ret ?_
    exact q_end [.one (.d (.bool v2936))] [false] [.one (.d (.bool v2936))] [] [] (by kernel_rfl) ⟨by kernel_rfl, by kernel_rfl⟩ (by kernel_rfl) (by kernel_rfl) (by kernel_rfl) (by kernel_rfl) (Eq.mp (by kernel_rfl) (hK v2936 h)) (.inr rfl)
def r76_0 : List AR := [⟨some 1, .box 139 true 3 (.t 0), [], none⟩,
  ⟨some 2, .mov (.c (.int .i64 0)), [], none⟩]
def r76_1 : List AR := [⟨some 3, .mov (.c (.bool false)), [], none⟩]
def r76_2 : List AR := [⟨some 4, .fad (.t 1) 0, [], none⟩,
  ⟨some 5, .ld false 1 (.t 4), [0], none⟩]
def r76_3 : List AR := [⟨some 7, .bin .eql (.t 5) (.c (.int .i64 1)), [], none⟩,
  ⟨some 6, .mov (.t 7), [0], none⟩]
def r76_4 : List AR := [⟨some 8, .fad (.t 1) 1, [], none⟩,
  ⟨some 9, .ld false 1 (.t 8), [0], none⟩,
  ⟨some 10, .call 75 [.t 9, .c (.int .u8 32), .c (.int .u8 126)], [1], none⟩,
  ⟨some 11, .mov (.t 10), [2, 2], none⟩,
  ⟨some 12, .fad (.t 1) 2, [3], some (11, true)⟩,
  ⟨some 13, .ld false 1 (.t 12), [4, 3], some (11, true)⟩,
  ⟨some 14, .bin .eql (.t 13) (.c (.int .i64 0)), [5, 3], some (11, true)⟩,
  ⟨some 15, .pick (.t 11) (.t 14) (.c (.bool false)), [3, 6], none⟩,
  ⟨some 3, .mov (.t 15), [7, 3, 0, 1, 2, 3, 4, 5, 6, 7], none⟩]
def r76_5 : List AR := [⟨some 17, .bin .eql (.t 5) (.c (.int .i64 2)), [], none⟩,
  ⟨some 16, .mov (.t 17), [0], none⟩]
def r76_6 : List AR := [⟨some 18, .fad (.t 1) 1, [], none⟩,
  ⟨some 19, .ld false 1 (.t 18), [0], none⟩,
  ⟨some 20, .bin .eql (.t 19) (.c (.str ⟨#[]⟩)), [1], none⟩,
  ⟨some 21, .mov (.t 20), [2], none⟩,
  ⟨some 22, .fad (.t 1) 2, [3], some (21, true)⟩,
  ⟨some 23, .ld false 1 (.t 22), [4, 3], some (21, true)⟩,
  ⟨some 24, .bin .geq (.t 23) (.c (.int .i64 (-1099511627776))), [5, 3], some (21, true)⟩,
  ⟨some 25, .pick (.t 21) (.t 24) (.c (.bool false)), [3, 6], none⟩,
  ⟨some 26, .mov (.t 25), [7, 3], none⟩,
  ⟨some 27, .fad (.t 1) 2, [8], some (26, true)⟩,
  ⟨some 28, .ld false 1 (.t 27), [9, 8], some (26, true)⟩,
  ⟨some 29, .bin .leq (.t 28) (.c (.int .i64 1099511627776)), [10, 8], some (26, true)⟩,
  ⟨some 30, .pick (.t 26) (.t 29) (.c (.bool false)), [8, 11], none⟩,
  ⟨some 3, .mov (.t 30), [12, 8, 0, 1, 2, 3, 4, 5, 6, 7, 8, 9, 10, 11, 12], none⟩]
def r76_7 : List AR := [⟨some 32, .bin .eql (.t 5) (.c (.int .i64 3)), [], none⟩,
  ⟨some 31, .mov (.t 32), [0], none⟩]
def r76_8 : List AR := [⟨some 33, .fad (.t 1) 1, [], none⟩,
  ⟨some 34, .ld false 1 (.t 33), [0], none⟩,
  ⟨some 35, .bin .eql (.t 34) (.c (.str ⟨#[]⟩)), [1], none⟩,
  ⟨some 36, .mov (.t 35), [2], none⟩,
  ⟨some 37, .fad (.t 1) 2, [3], some (36, true)⟩,
  ⟨some 38, .ld false 1 (.t 37), [4, 3], some (36, true)⟩,
  ⟨some 39, .bin .eql (.t 38) (.c (.int .i64 0)), [5, 3], some (36, true)⟩,
  ⟨some 40, .mov (.t 39), [6, 3, 3], some (36, true)⟩,
  ⟨some 41, .fad (.t 1) 2, [7], some (40, false)⟩,
  ⟨some 42, .ld false 1 (.t 41), [8, 7], some (40, false)⟩,
  ⟨some 43, .bin .eql (.t 42) (.c (.int .i64 1)), [9, 7], some (40, false)⟩,
  ⟨some 44, .pick (.t 40) (.c (.bool true)) (.t 43), [7, 10, 3], some (36, true)⟩,
  ⟨some 45, .pick (.t 36) (.t 44) (.c (.bool false)), [3, 11], none⟩,
  ⟨some 3, .mov (.t 45), [12, 7, 0, 1, 2, 3, 4, 5, 6, 7, 8, 9, 10, 11, 12], none⟩]
def r76_9 : List AR := [⟨some 2, .mov (.c (.int .i64 12)), [], none⟩]
def r76_10 : List AR := [⟨some 47, .fad (.t 1) 1, [], none⟩,
  ⟨some 48, .ld false 1 (.t 47), [0], none⟩,
  ⟨some 49, .lent (.t 48), [1], none⟩,
  ⟨some 50, .bin .gtr (.t 49) (.c (.int .i64 4096)), [2], none⟩,
  ⟨some 46, .mov (.t 50), [3], none⟩]
def r76_11 : List AR := [⟨some 2, .mov (.c (.int .i64 5)), [], none⟩]
def r76_12 : List AR := [⟨some 52, .mov (.t 3), [], none⟩,
  ⟨some 53, .un .not (.t 52), [0], none⟩,
  ⟨some 51, .mov (.t 53), [1], none⟩]
def r76_13 : List AR := [⟨some 2, .mov (.c (.int .i64 3)), [], none⟩]
def r76_14 : List AR := [⟨some 2, .mov (.c (.int .i64 0)), [], none⟩]
def c76 : ACode := .seq (.reg r76_0 false) (.seq (.reg r76_1 false) (.seq (.seq (.reg r76_2 false) (.blk 0 (.seq (.reg r76_3 false) (.cond (.t 6) (.reg r76_4 false) (.seq (.reg r76_5 false) (.cond (.t 16) (.reg r76_6 false) (.seq (.reg r76_7 false) (.cond (.t 31) (.reg r76_8 false) (.seq (.reg r76_9 false) (.ret)))))))))) (.seq (.blk 1 (.seq (.reg r76_10 false) (.cond (.t 46) (.seq (.reg r76_11 false) (.ret)) (.seq (.reg r76_12 false) (.cond (.t 51) (.seq (.reg r76_13 false) (.ret)) (.skip)))))) (.seq (.reg r76_14 false) (.ret)))))
theorem body76 : Try.f76.body.map (comp Try.prog 54) = some c76 := by kernel_rfl
theorem res76 : allSome (Try.f76.results.toList.map (compRes Try.prog)) = some [.s 2] := by kernel_rfl
theorem cok76 {S : FSpec} (h : ∀ args K, S args K → args.all argOk = true ∧ args.length ≤ 54 ∧ AW Try.prog 54 (some ownP) c76 (initS args) (retPost [.s 2] args K)) : COK Try.prog 76 S := of_body Try.func76 Try.ntmps76 body76 res76 h

def J76_1 (v_0_76 : TValue) (K : Int → Prop) (v2973 : Bool) : Prop :=
  Cond (decide ((v_0_76.text.size : Int) > 4096)) (K 5) (Cond (!v2973) (K 3) (K 0))

/-- sleuth/attribute.CheckValue -/
def W76 (v_0_76 : TValue) (K : Int → Prop) : Prop :=
  Cond (decide (v_0_76.kind = 1)) (W75 v_0_76.text 32 126 fun r2974 => Cond r2974 (J76_1 v_0_76 K (decide (v_0_76.int = 0))) (J76_1 v_0_76 K false)) (Cond (decide (v_0_76.kind = 2)) (Cond (decide (v_0_76.text = (⟨#[]⟩ : ByteArray))) (Cond (decide (v_0_76.int ≥ (-1099511627776))) (J76_1 v_0_76 K (decide (v_0_76.int ≤ 1099511627776))) (J76_1 v_0_76 K false)) (J76_1 v_0_76 K false)) (Cond (decide (v_0_76.kind = 3)) (Cond (decide (v_0_76.text = (⟨#[]⟩ : ByteArray))) (Cond (decide (v_0_76.int = 0)) (J76_1 v_0_76 K true) (J76_1 v_0_76 K (decide (v_0_76.int = 1)))) (J76_1 v_0_76 K false)) (K 12)))

def S76 : FSpec := fun args K => ∃ (v_0_76 : TValue), ∃ (Kr : Int → Prop), args = [.agg (List.map RC.d (TValue.enc v_0_76))] ∧ W76 v_0_76 Kr ∧ ∀ r, Kr r → K (.one (.d (.int .i64 r))) []

theorem en76 : enters Try.prog 76 = true := by unfold enters; rw [Try.func76]; rfl
theorem cl76 (v_0_76 : TValue) {Kr : Int → Prop} (h : W76 v_0_76 Kr) : S76 [.agg (List.map RC.d (TValue.enc v_0_76))] (fun rv rows => ∃ r, rv = (.one (.d (.int .i64 r))) ∧ rows = [] ∧ Kr r) := ⟨v_0_76, Kr, rfl, h, fun r hr => ⟨r, rfl, rfl, hr⟩⟩

theorem ok76 : COK Try.prog 76 S76 := by
  refine cok76 fun args K0 hS => ?_
  obtain ⟨v_0_76, K, rfl, h, hK⟩ := hS
  refine ⟨by kernel_rfl, by simp, ?_⟩
  unfold W76 at h
  refine AW.sregL [(0, none), (1, none)] (by kernel_rfl) ?_
  refine l_det (some 1) (.one (.ref 1 1 0 0), [(1, 1, .row true 139 3 [[.d (.int .i64 v_0_76.kind), .d (.str v_0_76.text), .d (.int .i64 v_0_76.int)]])]) (by kernel_rfl) ?_
  refine l_ds 2 (.one (.d (.int .i64 0))) ?_
  refine l_nil ?_
  refine AW.sregL [(0, none)] (by kernel_rfl) ?_
  refine l_ds 3 (.one (.d (.bool false))) ?_
  refine l_nil ?_
  refine AW.seqL (S := Bool) (fun s => (fun (v2973 : Bool) => [(1, .one (.ref 200001 0 0 0)), (3, .one (.d (.bool v2973)))]) s) (fun s => (fun (v2973 : Bool) => [(200001, .expl true 139 3 [[.d (.int .i64 v_0_76.kind), .d (.str v_0_76.text), .d (.int .i64 v_0_76.int)]])]) s) (fun s : Bool => J76_1 v_0_76 K s) ?_ ?_
  · refine AW.sregL [(0, none), (1, none)] (by kernel_rfl) ?_
    refine l_ds 4 (.one (.ref 1 1 0 0)) ?_
    refine l_ds 5 (.one (.d (.int .i64 v_0_76.kind))) ?_
    refine l_nil ?_
    refine AW.blk ?_
    refine AW.sregL [(0, none), (1, none)] (by kernel_rfl) ?_
    refine l_ds 7 (.one (.d (.bool (decide (v_0_76.kind = 1))))) ?_
    refine l_ds 6 (.one (.d (.bool (decide (v_0_76.kind = 1))))) ?_
    refine l_nil ?_
    refine AW.cond' (by kernel_rfl) h (fun h => ?_) (fun h => ?_)
    · refine AW.regL [(0, none), (1, none), (2, none), (3, none), (4, none), (5, none), (6, none), (7, none), (8, none)] (by kernel_rfl) ?_
      refine l_ds 8 (.one (.ref 1 1 0 1)) ?_
      refine l_ds 9 (.one (.d (.str v_0_76.text))) ?_
      refine l_call ok75 en75 (some 10) [.one (.d (.str v_0_76.text)), .one (.d (.int .u8 32)), .one (.d (.int .u8 126))] [false, false, false] [.one (.d (.str v_0_76.text)), .one (.d (.int .u8 32)), .one (.d (.int .u8 126))] [] (by kernel_rfl) ⟨by kernel_rfl, by kernel_rfl⟩ (by kernel_rfl) (by kernel_rfl) (by kernel_rfl) (cl75 v_0_76.text 32 126 h) ?_
      rintro hR _ _ ⟨r2974, rfl, rfl, h⟩
      refine ⟨false, (.one (.d (.bool r2974)), []), (fun hz => (by cases hz)), (ret_R hR (by kernel_rfl)), ?_⟩
      refine l_ds 11 (.one (.d (.bool r2974))) ?_
      refine l_split (s := 11) (by kernel_rfl) h (fun h => ?_) (fun h => ?_)
      · refine l_ds 12 (.one (.ref 1 1 0 2)) ?_
        refine l_ds 13 (.one (.d (.int .i64 v_0_76.int))) ?_
        refine l_ds 14 (.one (.d (.bool (decide (v_0_76.int = 0))))) ?_
        refine l_ds 15 (.one (.d (.bool (decide (v_0_76.int = 0))))) ?_
        refine l_ds 3 (.one (.d (.bool (decide (v_0_76.int = 0))))) ?_
        refine l_nil ?_
        refine q_bfall ?_
        refine q_fall ?_
        exact Lab.m (decide (v_0_76.int = 0)) [(200001, some 1)] h
      · refine l_ds 12 (.tup []) ?_
        refine l_ds 13 (.tup []) ?_
        refine l_ds 14 (.tup []) ?_
        refine l_ds 15 (.one (.d (.bool false))) ?_
        refine l_ds 3 (.one (.d (.bool false))) ?_
        refine l_nil ?_
        refine q_bfall ?_
        refine q_fall ?_
        exact Lab.m false [(200001, some 1)] h
    · refine AW.sregL [(0, none), (1, none)] (by kernel_rfl) ?_
      refine l_ds 17 (.one (.d (.bool (decide (v_0_76.kind = 2))))) ?_
      refine l_ds 16 (.one (.d (.bool (decide (v_0_76.kind = 2))))) ?_
      refine l_nil ?_
      refine AW.cond' (by kernel_rfl) h (fun h => ?_) (fun h => ?_)
      · refine AW.regL [(0, none), (1, none), (2, none), (3, none), (4, none), (5, none), (6, none), (7, none), (8, none), (9, none), (10, none), (11, none), (12, none), (13, none)] (by kernel_rfl) ?_
        refine l_ds 18 (.one (.ref 1 1 0 1)) ?_
        refine l_ds 19 (.one (.d (.str v_0_76.text))) ?_
        refine l_ds 20 (.one (.d (.bool (decide (v_0_76.text = (⟨#[]⟩ : ByteArray)))))) ?_
        refine l_ds 21 (.one (.d (.bool (decide (v_0_76.text = (⟨#[]⟩ : ByteArray)))))) ?_
        refine l_split (s := 21) (by kernel_rfl) h (fun h => ?_) (fun h => ?_)
        · refine l_ds 22 (.one (.ref 1 1 0 2)) ?_
          refine l_ds 23 (.one (.d (.int .i64 v_0_76.int))) ?_
          refine l_ds 24 (.one (.d (.bool (decide (v_0_76.int ≥ (-1099511627776)))))) ?_
          refine l_ds 25 (.one (.d (.bool (decide (v_0_76.int ≥ (-1099511627776)))))) ?_
          refine l_ds 26 (.one (.d (.bool (decide (v_0_76.int ≥ (-1099511627776)))))) ?_
          refine l_split (s := 26) (by kernel_rfl) h (fun h => ?_) (fun h => ?_)
          · refine l_ds 27 (.one (.ref 1 1 0 2)) ?_
            refine l_ds 28 (.one (.d (.int .i64 v_0_76.int))) ?_
            refine l_ds 29 (.one (.d (.bool (decide (v_0_76.int ≤ 1099511627776))))) ?_
            refine l_ds 30 (.one (.d (.bool (decide (v_0_76.int ≤ 1099511627776))))) ?_
            refine l_ds 3 (.one (.d (.bool (decide (v_0_76.int ≤ 1099511627776))))) ?_
            refine l_nil ?_
            refine q_bfall ?_
            refine q_fall ?_
            exact Lab.m (decide (v_0_76.int ≤ 1099511627776)) [(200001, some 1)] h
          · refine l_ds 27 (.tup []) ?_
            refine l_ds 28 (.tup []) ?_
            refine l_ds 29 (.tup []) ?_
            refine l_ds 30 (.one (.d (.bool false))) ?_
            refine l_ds 3 (.one (.d (.bool false))) ?_
            refine l_nil ?_
            refine q_bfall ?_
            refine q_fall ?_
            exact Lab.m false [(200001, some 1)] h
        · refine l_ds 22 (.tup []) ?_
          refine l_ds 23 (.tup []) ?_
          refine l_ds 24 (.tup []) ?_
          refine l_ds 25 (.one (.d (.bool false))) ?_
          refine l_ds 26 (.one (.d (.bool false))) ?_
          refine l_ds 27 (.tup []) ?_
          refine l_ds 28 (.tup []) ?_
          refine l_ds 29 (.tup []) ?_
          refine l_ds 30 (.one (.d (.bool false))) ?_
          refine l_ds 3 (.one (.d (.bool false))) ?_
          refine l_nil ?_
          refine q_bfall ?_
          refine q_fall ?_
          exact Lab.m false [(200001, some 1)] h
      · refine AW.sregL [(0, none), (1, none)] (by kernel_rfl) ?_
        refine l_ds 32 (.one (.d (.bool (decide (v_0_76.kind = 3))))) ?_
        refine l_ds 31 (.one (.d (.bool (decide (v_0_76.kind = 3))))) ?_
        refine l_nil ?_
        refine AW.cond' (by kernel_rfl) h (fun h => ?_) (fun h => ?_)
        · refine AW.regL [(0, none), (1, none), (2, none), (3, none), (4, none), (5, none), (6, none), (7, none), (8, none), (9, none), (10, none), (11, none), (12, none), (13, none)] (by kernel_rfl) ?_
          refine l_ds 33 (.one (.ref 1 1 0 1)) ?_
          refine l_ds 34 (.one (.d (.str v_0_76.text))) ?_
          refine l_ds 35 (.one (.d (.bool (decide (v_0_76.text = (⟨#[]⟩ : ByteArray)))))) ?_
          refine l_ds 36 (.one (.d (.bool (decide (v_0_76.text = (⟨#[]⟩ : ByteArray)))))) ?_
          refine l_split (s := 36) (by kernel_rfl) h (fun h => ?_) (fun h => ?_)
          · refine l_ds 37 (.one (.ref 1 1 0 2)) ?_
            refine l_ds 38 (.one (.d (.int .i64 v_0_76.int))) ?_
            refine l_ds 39 (.one (.d (.bool (decide (v_0_76.int = 0))))) ?_
            refine l_ds 40 (.one (.d (.bool (decide (v_0_76.int = 0))))) ?_
            refine l_split (s := 40) (by kernel_rfl) h (fun h => ?_) (fun h => ?_)
            · refine l_ds 41 (.tup []) ?_
              refine l_ds 42 (.tup []) ?_
              refine l_ds 43 (.tup []) ?_
              refine l_ds 44 (.one (.d (.bool true))) ?_
              refine l_ds 45 (.one (.d (.bool true))) ?_
              refine l_ds 3 (.one (.d (.bool true))) ?_
              refine l_nil ?_
              refine q_bfall ?_
              refine q_fall ?_
              exact Lab.m true [(200001, some 1)] h
            · refine l_ds 41 (.one (.ref 1 1 0 2)) ?_
              refine l_ds 42 (.one (.d (.int .i64 v_0_76.int))) ?_
              refine l_ds 43 (.one (.d (.bool (decide (v_0_76.int = 1))))) ?_
              refine l_ds 44 (.one (.d (.bool (decide (v_0_76.int = 1))))) ?_
              refine l_ds 45 (.one (.d (.bool (decide (v_0_76.int = 1))))) ?_
              refine l_ds 3 (.one (.d (.bool (decide (v_0_76.int = 1))))) ?_
              refine l_nil ?_
              refine q_bfall ?_
              refine q_fall ?_
              exact Lab.m (decide (v_0_76.int = 1)) [(200001, some 1)] h
          · refine l_ds 37 (.tup []) ?_
            refine l_ds 38 (.tup []) ?_
            refine l_ds 39 (.tup []) ?_
            refine l_ds 40 (.tup []) ?_
            refine l_ds 41 (.tup []) ?_
            refine l_ds 42 (.tup []) ?_
            refine l_ds 43 (.tup []) ?_
            refine l_ds 44 (.tup []) ?_
            refine l_ds 45 (.one (.d (.bool false))) ?_
            refine l_ds 3 (.one (.d (.bool false))) ?_
            refine l_nil ?_
            refine q_bfall ?_
            refine q_fall ?_
            exact Lab.m false [(200001, some 1)] h
        · refine AW.sregL [(0, none)] (by kernel_rfl) ?_
          refine l_ds 2 (.one (.d (.int .i64 12))) ?_
          refine l_nil ?_
          refine AW.ret ?_
          refine q_bret ?_
          refine q_ret ?_
          exact q_end [.one (.d (.int .i64 12))] [false] [.one (.d (.int .i64 12))] [] [] (by kernel_rfl) ⟨by kernel_rfl, by kernel_rfl⟩ (by kernel_rfl) (by kernel_rfl) (by kernel_rfl) (by kernel_rfl) (Eq.mp (by kernel_rfl) (hK 12 h)) (.inr rfl)
  · rintro v2973 h
    have h : J76_1 v_0_76 K v2973 := h
    unfold J76_1 at h
    refine AW.seq ?_
    refine AW.blk ?_
    refine AW.sregL [(0, none), (1, none), (2, none), (3, none), (4, none)] (by kernel_rfl) ?_
    refine l_ds 47 (.one (.ref 200001 0 0 1)) ?_
    refine l_ds 48 (.one (.d (.str v_0_76.text))) ?_
    refine l_ds 49 (.one (.d (.int .i64 (v_0_76.text.size : Int)))) ?_
    refine l_ds 50 (.one (.d (.bool (decide ((v_0_76.text.size : Int) > 4096))))) ?_
    refine l_ds 46 (.one (.d (.bool (decide ((v_0_76.text.size : Int) > 4096))))) ?_
    refine l_nil ?_
    refine AW.cond' (by kernel_rfl) h (fun h => ?_) (fun h => ?_)
    · refine AW.sregL [(0, none)] (by kernel_rfl) ?_
      refine l_ds 2 (.one (.d (.int .i64 5))) ?_
      refine l_nil ?_
      refine AW.ret ?_
      refine q_bret ?_
      refine q_ret ?_
      exact q_end [.one (.d (.int .i64 5))] [false] [.one (.d (.int .i64 5))] [] [] (by kernel_rfl) ⟨by kernel_rfl, by kernel_rfl⟩ (by kernel_rfl) (by kernel_rfl) (by kernel_rfl) (by kernel_rfl) (Eq.mp (by kernel_rfl) (hK 5 h)) (.inr rfl)
    · refine AW.sregL [(0, none), (1, none), (2, none)] (by kernel_rfl) ?_
      refine l_ds 52 (.one (.d (.bool v2973))) ?_
      refine l_ds 53 (.one (.d (.bool (!v2973)))) ?_
      refine l_ds 51 (.one (.d (.bool (!v2973)))) ?_
      refine l_nil ?_
      refine AW.cond' (by kernel_rfl) h (fun h => ?_) (fun h => ?_)
      · refine AW.sregL [(0, none)] (by kernel_rfl) ?_
        refine l_ds 2 (.one (.d (.int .i64 3))) ?_
        refine l_nil ?_
        refine AW.ret ?_
        refine q_bret ?_
        refine q_ret ?_
        exact q_end [.one (.d (.int .i64 3))] [false] [.one (.d (.int .i64 3))] [] [] (by kernel_rfl) ⟨by kernel_rfl, by kernel_rfl⟩ (by kernel_rfl) (by kernel_rfl) (by kernel_rfl) (by kernel_rfl) (Eq.mp (by kernel_rfl) (hK 3 h)) (.inr rfl)
      · refine AW.skip ?_
        refine q_bfall ?_
        refine q_fall ?_
        refine AW.sregL [(0, none)] (by kernel_rfl) ?_
        refine l_ds 2 (.one (.d (.int .i64 0))) ?_
        refine l_nil ?_
        refine AW.ret ?_
        exact q_end [.one (.d (.int .i64 0))] [false] [.one (.d (.int .i64 0))] [] [] (by kernel_rfl) ⟨by kernel_rfl, by kernel_rfl⟩ (by kernel_rfl) (by kernel_rfl) (by kernel_rfl) (by kernel_rfl) (Eq.mp (by kernel_rfl) (hK 0 h)) (.inr rfl)
def r56_0 : List AR := [⟨some 2, .mov (.c (.int .i64 0)), [], none⟩]
def r56_1 : List AR := [⟨some 6, .mov (.t 0), [], none⟩,
  ⟨some 7, .lens (.t 6), [0], none⟩,
  ⟨some 8, .bin .gtr (.t 7) (.c (.int .i64 32)), [1], none⟩]
def r56_2 : List AR := [⟨some 2, .mov (.c (.int .i64 6)), [], none⟩]
def r56_3 : List AR := [⟨some 9, .mov (.t 0), [], none⟩,
  ⟨some 10, .lens (.t 9), [0], none⟩,
  ⟨some 11, .mov (.c (.int .i64 0)), [], none⟩]
def r56_4 : List AR := [⟨some 12, .bin .lss (.t 11) (.t 10), [], none⟩]
def r56_5 : List AR := [⟨some 13, .mov (.t 11), [], none⟩,
  ⟨some 14, .iad 4 (.t 9) (.t 11), [], none⟩,
  ⟨some 15, .ld true 4 (.t 14), [1], none⟩,
  ⟨some 4, .alloc 141 true [.str ⟨#[]⟩, .int .i64 0, .str ⟨#[]⟩, .int .i64 0], [], none⟩,
  ⟨some 3, .mov (.t 13), [0, 0, 1, 2, 3], none⟩,
  ⟨none, .st 4 (.t 4) (.t 15), [3, 2, 4, 0, 1, 2, 3, 4], none⟩]
def r56_6 : List AR := [⟨some 17, .fad (.t 4) 0, [], none⟩,
  ⟨some 18, .ld false 1 (.t 17), [0], none⟩,
  ⟨some 19, .call 54 [.t 18], [1], none⟩,
  ⟨some 20, .un .not (.t 19), [2], none⟩,
  ⟨some 16, .mov (.t 20), [3, 2], none⟩]
def r56_7 : List AR := [⟨some 2, .mov (.c (.int .i64 11)), [], none⟩]
def r56_8 : List AR := [⟨some 22, .mov (.t 3), [], none⟩,
  ⟨some 23, .bin .gtr (.t 22) (.c (.int .i64 0)), [0], none⟩,
  ⟨some 24, .mov (.t 23), [1], none⟩,
  ⟨some 25, .fad (.t 4) 0, [2], some (24, true)⟩,
  ⟨some 26, .ld false 1 (.t 25), [3, 2], some (24, true)⟩,
  ⟨some 27, .mov (.t 0), [2], some (24, true)⟩,
  ⟨some 28, .mov (.t 3), [2], some (24, true)⟩,
  ⟨some 29, .bin .sub (.t 28) (.c (.int .i64 1)), [6, 2], some (24, true)⟩,
  ⟨some 30, .iad 4 (.t 27) (.t 29), [5, 7, 2], some (24, true)⟩,
  ⟨some 31, .fad (.t 30) 0, [8, 2], some (24, true)⟩,
  ⟨some 32, .ld false 1 (.t 31), [9, 2], some (24, true)⟩,
  ⟨some 33, .bin .leq (.t 26) (.t 32), [4, 10, 2], some (24, true)⟩,
  ⟨some 34, .pick (.t 24) (.t 33) (.c (.bool false)), [2, 11], none⟩,
  ⟨some 21, .mov (.t 34), [12, 2], none⟩]
def r56_9 : List AR := [⟨some 2, .mov (.c (.int .i64 8)), [], none⟩]
def r56_10 : List AR := [⟨some 35, .fad (.t 4) 1, [], none⟩,
  ⟨some 36, .ld true 3 (.t 35), [0], none⟩,
  ⟨some 37, .call 76 [.t 36], [1], none⟩,
  ⟨some 5, .mov (.t 37), [2, 2, 0, 1, 2], none⟩]
def r56_11 : List AR := [⟨some 38, .mov (.t 5), [], none⟩,
  ⟨some 39, .bin .neq (.t 38) (.c (.int .i64 0)), [0], none⟩]
def r56_12 : List AR := [⟨some 40, .mov (.t 5), [], none⟩,
  ⟨some 2, .mov (.t 40), [0, 0], none⟩]
def r56_13 : List AR := [⟨some 41, .bin .add (.t 11) (.c (.int .i64 1)), [], none⟩,
  ⟨some 11, .mov (.t 41), [0], none⟩]
def r56_14 : List AR := [⟨some 2, .mov (.c (.int .i64 0)), [], none⟩]
def c56 : ACode := .seq (.reg r56_0 false) (.seq (.seq (.reg r56_1 false) (.cond (.t 8) (.seq (.reg r56_2 false) (.ret)) (.skip))) (.seq (.seq (.reg r56_3 false) (.blk 0 (.loop (.seq (.reg r56_4 false) (.seq (.cond (.t 12) (.skip) (.exit 0)) (.seq (.blk 1 (.seq (.reg r56_5 false) (.seq (.blk 2 (.seq (.reg r56_6 false) (.cond (.t 16) (.seq (.reg r56_7 false) (.ret)) (.seq (.reg r56_8 true) (.cond (.t 21) (.seq (.reg r56_9 false) (.ret)) (.skip)))))) (.seq (.reg r56_10 false) (.seq (.reg r56_11 false) (.cond (.t 39) (.seq (.reg r56_12 false) (.ret)) (.skip))))))) (.reg r56_13 false))))))) (.seq (.reg r56_14 false) (.ret))))
theorem body56 : Try.f56.body.map (comp Try.prog 42) = some c56 := by kernel_rfl
theorem res56 : allSome (Try.f56.results.toList.map (compRes Try.prog)) = some [.s 2] := by kernel_rfl
theorem cok56 {S : FSpec} (h : ∀ args K, S args K → args.all argOk = true ∧ args.length ≤ 42 ∧ AW Try.prog 42 (some ownP) c56 (initS args) (retPost [.s 2] args K)) : COK Try.prog 56 S := of_body Try.func56 Try.ntmps56 body56 res56 h

def J56_2 (K : Int → Prop) (x3118 : TAttr) (N3100 : Int → Prop) (v3067 : Int) (v3129 : Bool) : Prop :=
  Cond v3129 (K 8) (W76 x3118.value fun r3131 => Cond (decide (¬ r3131 = 0)) (K r3131) (N3100 (w64 (v3067 + 1))))

def L56_1 (l_56 : List TAttr) (K : Int → Prop) (v3067 : Int) (N3100 : Int → Prop) : Prop :=
  Cond (decide (v3067 < (l_56.length : Int))) (Idx l_56 v3067 fun x3118 => W54 x3118.key fun r3126 => Cond (!r3126) (K 11) (Cond (decide (v3067 > 0)) (Idx l_56 (w64 (v3067 - 1)) fun x3132 => J56_2 K x3118 N3100 v3067 (Op.bytesLess x3118.key.toList x3132.key.toList || decide (x3118.key = x3132.key))) (J56_2 K x3118 N3100 v3067 false))) (K 0)

/-- sleuth/attribute.CheckAttrs -/
def W56 (l_56 : List TAttr) (K : Int → Prop) : Prop :=
  Cond (decide ((l_56.length : Int) > 32)) (K 6) (LoopW (fun (s : Int) N3100 => L56_1 l_56 K s N3100) 0)

def S56 : FSpec := fun args K => ∃ (l_56 : List TAttr), ∃ (Kr : Int → Prop), args = [.one (.d (.sl (List.map TAttr.enc l_56)))] ∧ W56 l_56 Kr ∧ ∀ r, Kr r → K (.one (.d (.int .i64 r))) []

theorem en56 : enters Try.prog 56 = true := by unfold enters; rw [Try.func56]; rfl
theorem cl56 (l_56 : List TAttr) {Kr : Int → Prop} (h : W56 l_56 Kr) : S56 [.one (.d (.sl (List.map TAttr.enc l_56)))] (fun rv rows => ∃ r, rv = (.one (.d (.int .i64 r))) ∧ rows = [] ∧ Kr r) := ⟨l_56, Kr, rfl, h, fun r hr => ⟨r, rfl, rfl, hr⟩⟩

theorem ok56 : COK Try.prog 56 S56 := by
  refine cok56 fun args K0 hS => ?_
  obtain ⟨l_56, K, rfl, h, hK⟩ := hS
  refine ⟨by kernel_rfl, by simp, ?_⟩
  unfold W56 at h
  refine AW.sregL [(0, none)] (by kernel_rfl) ?_
  refine l_ds 2 (.one (.d (.int .i64 0))) ?_
  refine l_nil ?_
  refine AW.seq ?_
  refine AW.sregL [(0, none), (1, none), (2, none)] (by kernel_rfl) ?_
  refine l_ds 6 (.one (.d (.sl (List.map TAttr.enc l_56)))) ?_
  refine l_spec (some 7) (.lens (.t 6)) (.one (.d (.int .i64 (l_56.length : Int))), []) (by kernel_rfl) (detA_none (d_lens_sl (enc := TAttr.enc) l_56 (by kernel_rfl))) ?_
  refine l_ds 8 (.one (.d (.bool (decide ((l_56.length : Int) > 32))))) ?_
  refine l_nil ?_
  refine AW.cond' (by kernel_rfl) h (fun h => ?_) (fun h => ?_)
  · refine AW.sregL [(0, none)] (by kernel_rfl) ?_
    refine l_ds 2 (.one (.d (.int .i64 6))) ?_
    refine l_nil ?_
    refine AW.ret ?_
    refine q_ret ?_
    exact q_end [.one (.d (.int .i64 6))] [false] [.one (.d (.int .i64 6))] [] [] (by kernel_rfl) ⟨by kernel_rfl, by kernel_rfl⟩ (by kernel_rfl) (by kernel_rfl) (by kernel_rfl) (by kernel_rfl) (Eq.mp (by kernel_rfl) (hK 6 h)) (.inr rfl)
  · refine AW.skip ?_
    refine q_fall ?_
    refine AW.seq ?_
    refine AW.sregL [(0, none), (1, none), (2, none)] (by kernel_rfl) ?_
    refine l_ds 9 (.one (.d (.sl (List.map TAttr.enc l_56)))) ?_
    refine l_spec (some 10) (.lens (.t 9)) (.one (.d (.int .i64 (l_56.length : Int))), []) (by kernel_rfl) (detA_none (d_lens_sl (enc := TAttr.enc) l_56 (by kernel_rfl))) ?_
    refine l_ds 11 (.one (.d (.int .i64 0))) ?_
    refine l_nil ?_
    refine AW.blk ?_
    refine AW.loopL (S := Int) (fun s => (fun (v3067 : Int) => [(0, .one (.d (.sl (List.map TAttr.enc l_56)))), (9, .one (.d (.sl (List.map TAttr.enc l_56)))), (10, .one (.d (.int .i64 (l_56.length : Int)))), (11, .one (.d (.int .i64 v3067)))]) s) (fun s => (fun (v3067 : Int) => []) s) (fun (s : Int) N3100 => L56_1 l_56 K s N3100) (N := fun s => LoopW (fun (s : Int) N3100 => L56_1 l_56 K s N3100) s) (Lab.m 0 [] h) (fun _ h => h) ?_
    rintro v3067 N3100 h
    have h : L56_1 l_56 K v3067 N3100 := h
    unfold L56_1 at h
    refine AW.sregL [(0, none)] (by kernel_rfl) ?_
    refine l_ds 12 (.one (.d (.bool (decide (v3067 < (l_56.length : Int)))))) ?_
    refine l_nil ?_
    refine AW.seq ?_
    refine AW.cond' (by kernel_rfl) h (fun h => ?_) (fun h => ?_)
    · refine AW.skip ?_
      refine q_fall ?_
      refine AW.seq ?_
      refine AW.blk ?_
      refine AW.sregL [(0, none), (1, none), (2, none), (3, none), (4, none), (5, none)] (by kernel_rfl) ?_
      refine l_ds 13 (.one (.d (.int .i64 v3067))) ?_
      obtain ⟨h197, x3118, h198, h⟩ := h
      refine l_spec (some 14) (.iad 4 (.t 9) (.t 11)) (.one (.d (.ptr [.str x3118.key, .int .i64 x3118.value.kind, .str x3118.value.text, .int .i64 x3118.value.int])), []) (by kernel_rfl) (detA_none (d_iad_sl (enc := TAttr.enc) (k := .i64) l_56 x3118 (by kernel_rfl) (by kernel_rfl) h197 h198 rfl)) ?_
      refine l_ds 15 (.agg [.d (.str x3118.key), .d (.int .i64 x3118.value.kind), .d (.str x3118.value.text), .d (.int .i64 x3118.value.int)]) ?_
      refine l_det (some 4) (.one (.ref 4 1 0 0), [(4, 1, .row true 141 4 [[.d (.str (⟨#[]⟩ : ByteArray)), .d (.int .i64 0), .d (.str (⟨#[]⟩ : ByteArray)), .d (.int .i64 0)]])]) (by kernel_rfl) ?_
      refine l_ds 3 (.one (.d (.int .i64 v3067))) ?_
      refine l_det none (.tup [], [(4, 1, .row true 141 4 [[.d (.str x3118.key), .d (.int .i64 x3118.value.kind), .d (.str x3118.value.text), .d (.int .i64 x3118.value.int)]])]) (by kernel_rfl) ?_
      refine l_nil ?_
      refine AW.seq ?_
      refine AW.blk ?_
      refine AW.sregL [(0, none), (1, none), (2, none), (3, none), (4, none)] (by kernel_rfl) ?_
      refine l_ds 17 (.one (.ref 4 1 0 0)) ?_
      refine l_ds 18 (.one (.d (.str x3118.key))) ?_
      refine l_call ok54 en54 (some 19) [.one (.d (.str x3118.key))] [false] [.one (.d (.str x3118.key))] [] (by kernel_rfl) ⟨by kernel_rfl, by kernel_rfl⟩ (by kernel_rfl) (by kernel_rfl) (by kernel_rfl) (cl54 x3118.key h) ?_
      rintro hR _ _ ⟨r3126, rfl, rfl, h⟩
      refine ⟨false, (.one (.d (.bool r3126)), []), (fun hz => (by cases hz)), (ret_R hR (by kernel_rfl)), ?_⟩
      refine l_ds 20 (.one (.d (.bool (!r3126)))) ?_
      refine l_ds 16 (.one (.d (.bool (!r3126)))) ?_
      refine l_nil ?_
      refine AW.cond' (by kernel_rfl) h (fun h => ?_) (fun h => ?_)
      · refine AW.sregL [(0, none)] (by kernel_rfl) ?_
        refine l_ds 2 (.one (.d (.int .i64 11))) ?_
        refine l_nil ?_
        refine AW.ret ?_
        refine q_bret ?_
        refine q_ret ?_
        refine q_bret ?_
        refine q_ret ?_
        refine q_ret ?_
        refine q_bret ?_
        refine q_ret ?_
        exact q_end [.one (.d (.int .i64 11))] [false] [.one (.d (.int .i64 11))] [] [] (by kernel_rfl) ⟨by kernel_rfl, by kernel_rfl⟩ (by kernel_rfl) (by kernel_rfl) (by kernel_rfl) (by kernel_rfl) (Eq.mp (by kernel_rfl) (hK 11 h)) (.inr rfl)
      · refine AW.seqL (S := Bool) (fun s => (fun (v3129 : Bool) => [(0, .one (.d (.sl (List.map TAttr.enc l_56)))), (4, .one (.ref 200001 0 0 0)), (9, .one (.d (.sl (List.map TAttr.enc l_56)))), (10, .one (.d (.int .i64 (l_56.length : Int)))), (11, .one (.d (.int .i64 v3067))), (21, .one (.d (.bool v3129)))]) s) (fun s => (fun (v3129 : Bool) => [(200001, .expl true 141 4 [[.d (.str x3118.key), .d (.int .i64 x3118.value.kind), .d (.str x3118.value.text), .d (.int .i64 x3118.value.int)]])]) s) (fun s : Bool => J56_2 K x3118 N3100 v3067 s) ?_ ?_
        · refine AW.regdL follows_mixed [[], [0], [0, 1], [0, 1, 2], [0, 1, 2, 3], [0, 1, 2], [0, 1, 2], [0, 1, 2, 6], [0, 1, 2, 5, 6, 7], [0, 1, 2, 5, 6, 7, 8], [0, 1, 2, 5, 6, 7, 8, 9], [0, 1, 2, 3, 4, 5, 6, 7, 8, 9, 10], [0, 1, 2, 3, 4, 5, 6, 7, 8, 9, 10, 11], [0, 1, 2, 3, 4, 5, 6, 7, 8, 9, 10, 11, 12]] [(0, none), (1, none), (2, none), (3, none), (4, none), (5, none), (6, none), (7, none), (8, none), (9, none), (10, none), (11, none), (12, none), (13, none)] (by kernel_rfl) ?_
          refine l_ds 22 (.one (.d (.int .i64 v3067))) ?_
          refine l_ds 23 (.one (.d (.bool (decide (v3067 > 0))))) ?_
          refine l_ds 24 (.one (.d (.bool (decide (v3067 > 0))))) ?_
          refine l_split (s := 24) (by kernel_rfl) h (fun h => ?_) (fun h => ?_)
          · refine l_ds 25 (.one (.ref 4 1 0 0)) ?_
            refine l_ds 26 (.one (.d (.str x3118.key))) ?_
            refine l_ds 27 (.one (.d (.sl (List.map TAttr.enc l_56)))) ?_
            refine l_ds 28 (.one (.d (.int .i64 v3067))) ?_
            refine l_ds 29 (.one (.d (.int .i64 (w64 (v3067 - 1))))) ?_
            obtain ⟨h215, x3132, h216, h⟩ := h
            refine l_spec (some 30) (.iad 4 (.t 27) (.t 29)) (.one (.d (.ptr [.str x3132.key, .int .i64 x3132.value.kind, .str x3132.value.text, .int .i64 x3132.value.int])), []) (by kernel_rfl) (detA_none (d_iad_sl (enc := TAttr.enc) (k := .i64) l_56 x3132 (by kernel_rfl) (by kernel_rfl) h215 h216 rfl)) ?_
            refine l_ds 31 (.one (.d (.ptr [.str x3132.key, .int .i64 x3132.value.kind, .str x3132.value.text, .int .i64 x3132.value.int]))) ?_
            refine l_ds 32 (.one (.d (.str x3132.key))) ?_
            refine l_ds 33 (.one (.d (.bool (Op.bytesLess x3118.key.toList x3132.key.toList || decide (x3118.key = x3132.key))))) ?_
            refine l_ds 34 (.one (.d (.bool (Op.bytesLess x3118.key.toList x3132.key.toList || decide (x3118.key = x3132.key))))) ?_
            refine l_ds 21 (.one (.d (.bool (Op.bytesLess x3118.key.toList x3132.key.toList || decide (x3118.key = x3132.key))))) ?_
            refine l_nil ?_
            refine q_fall ?_
            exact Lab.m (Op.bytesLess x3118.key.toList x3132.key.toList || decide (x3118.key = x3132.key)) [(200001, some 4)] h
          · refine l_ds 25 (.tup []) ?_
            refine l_ds 26 (.tup []) ?_
            refine l_ds 27 (.tup []) ?_
            refine l_ds 28 (.tup []) ?_
            refine l_ds 29 (.tup []) ?_
            refine l_ds 30 (.tup []) ?_
            refine l_ds 31 (.tup []) ?_
            refine l_ds 32 (.tup []) ?_
            refine l_ds 33 (.tup []) ?_
            refine l_ds 34 (.one (.d (.bool false))) ?_
            refine l_ds 21 (.one (.d (.bool false))) ?_
            refine l_nil ?_
            refine q_fall ?_
            exact Lab.m false [(200001, some 4)] h
        · rintro v3129 h
          have h : J56_2 K x3118 N3100 v3067 v3129 := h
          unfold J56_2 at h
          refine AW.cond' (by kernel_rfl) h (fun h => ?_) (fun h => ?_)
          · refine AW.sregL [(0, none)] (by kernel_rfl) ?_
            refine l_ds 2 (.one (.d (.int .i64 8))) ?_
            refine l_nil ?_
            refine AW.ret ?_
            refine q_bret ?_
            refine q_ret ?_
            refine q_bret ?_
            refine q_ret ?_
            refine q_ret ?_
            refine q_bret ?_
            refine q_ret ?_
            exact q_end [.one (.d (.int .i64 8))] [false] [.one (.d (.int .i64 8))] [] [] (by kernel_rfl) ⟨by kernel_rfl, by kernel_rfl⟩ (by kernel_rfl) (by kernel_rfl) (by kernel_rfl) (by kernel_rfl) (Eq.mp (by kernel_rfl) (hK 8 h)) (.inr rfl)
          · refine AW.skip ?_
            refine q_bfall ?_
            refine q_fall ?_
            refine AW.sregL [(0, none), (1, none), (2, none), (3, none)] (by kernel_rfl) ?_
            refine l_ds 35 (.one (.ref 200001 0 0 1)) ?_
            refine l_ds 36 (.agg [.d (.int .i64 x3118.value.kind), .d (.str x3118.value.text), .d (.int .i64 x3118.value.int)]) ?_
            refine l_call ok76 en76 (some 37) [.agg [.d (.int .i64 x3118.value.kind), .d (.str x3118.value.text), .d (.int .i64 x3118.value.int)]] [false] [.agg (List.map RC.d [.int .i64 x3118.value.kind, .str x3118.value.text, .int .i64 x3118.value.int])] [] (by kernel_rfl) ⟨by kernel_rfl, by kernel_rfl⟩ (by kernel_rfl) (by kernel_rfl) (by kernel_rfl) (cl76 x3118.value h) ?_
            rintro hR _ _ ⟨r3131, rfl, rfl, h⟩
            refine ⟨false, (.one (.d (.int .i64 r3131)), []), (fun hz => (by cases hz)), (ret_R hR (by kernel_rfl)), ?_⟩
            refine l_ds 5 (.one (.d (.int .i64 r3131))) ?_
            refine l_nil ?_
            refine AW.sregL [(0, none), (1, none)] (by kernel_rfl) ?_
            refine l_ds 38 (.one (.d (.int .i64 r3131))) ?_
            refine l_ds 39 (.one (.d (.bool (decide (¬ r3131 = 0))))) ?_
            refine l_nil ?_
            refine AW.cond' (by kernel_rfl) h (fun h => ?_) (fun h => ?_)
            · refine AW.sregL [(0, none), (1, none)] (by kernel_rfl) ?_
              refine l_ds 40 (.one (.d (.int .i64 r3131))) ?_
              refine l_ds 2 (.one (.d (.int .i64 r3131))) ?_
              refine l_nil ?_
              refine AW.ret ?_
              refine q_bret ?_
              refine q_ret ?_
              refine q_ret ?_
              refine q_bret ?_
              refine q_ret ?_
              exact q_end [.one (.d (.int .i64 r3131))] [false] [.one (.d (.int .i64 r3131))] [] [] (by kernel_rfl) ⟨by kernel_rfl, by kernel_rfl⟩ (by kernel_rfl) (by kernel_rfl) (by kernel_rfl) (by kernel_rfl) (Eq.mp (by kernel_rfl) (hK r3131 h)) (.inr rfl)
            · refine AW.skip ?_
              refine q_bfall ?_
              refine q_fall ?_
              refine AW.regL [(0, none), (1, none)] (by kernel_rfl) ?_
              refine l_ds 41 (.one (.d (.int .i64 (w64 (v3067 + 1))))) ?_
              refine l_ds 11 (.one (.d (.int .i64 (w64 (v3067 + 1))))) ?_
              refine l_nil ?_
              refine q_fall ?_
              exact Lab.m (w64 (v3067 + 1)) [] h
    · refine AW.exit ?_
      refine q_exit ?_
      refine q_exit ?_
      refine q_bhere ?_
      refine q_fall ?_
      refine AW.sregL [(0, none)] (by kernel_rfl) ?_
      refine l_ds 2 (.one (.d (.int .i64 0))) ?_
      refine l_nil ?_
      refine AW.ret ?_
      exact q_end [.one (.d (.int .i64 0))] [false] [.one (.d (.int .i64 0))] [] [] (by kernel_rfl) ⟨by kernel_rfl, by kernel_rfl⟩ (by kernel_rfl) (by kernel_rfl) (by kernel_rfl) (by kernel_rfl) (Eq.mp (by kernel_rfl) (hK 0 h)) (.inr rfl)
def r79_0 : List AR := [⟨some 2, .mov (.c (.bool false)), [], none⟩]
def r79_1 : List AR := [⟨some 3, .mov (.t 0), [], none⟩,
  ⟨some 4, .mov (.t 0), [], none⟩,
  ⟨some 5, .bin .neq (.t 3) (.t 4), [0, 1], none⟩,
  ⟨some 2, .mov (.t 5), [2, 0, 1, 2], none⟩]
def c79 : ACode := .seq (.reg r79_0 false) (.seq (.reg r79_1 false) (.ret))
theorem body79 : Try.f79.body.map (comp Try.prog 6) = some c79 := by kernel_rfl
theorem res79 : allSome (Try.f79.results.toList.map (compRes Try.prog)) = some [.s 2] := by kernel_rfl
theorem cok79 {S : FSpec} (h : ∀ args K, S args K → args.all argOk = true ∧ args.length ≤ 6 ∧ AW Try.prog 6 (some ownP) c79 (initS args) (retPost [.s 2] args K)) : COK Try.prog 79 S := of_body Try.func79 Try.ntmps79 body79 res79 h

/-- cmp.isNaN[int] -/
def W79 (x_0_79 : Int) (K : Bool → Prop) : Prop :=
  K (decide (¬ x_0_79 = x_0_79))

def S79 : FSpec := fun args K => ∃ (x_0_79 : Int), ∃ (Kr : Bool → Prop), args = [.one (.d (.int .i64 x_0_79))] ∧ W79 x_0_79 Kr ∧ ∀ r, Kr r → K (.one (.d (.bool r))) []

theorem en79 : enters Try.prog 79 = true := by unfold enters; rw [Try.func79]; rfl
theorem cl79 (x_0_79 : Int) {Kr : Bool → Prop} (h : W79 x_0_79 Kr) : S79 [.one (.d (.int .i64 x_0_79))] (fun rv rows => ∃ r, rv = (.one (.d (.bool r))) ∧ rows = [] ∧ Kr r) := ⟨x_0_79, Kr, rfl, h, fun r hr => ⟨r, rfl, rfl, hr⟩⟩

theorem ok79 : COK Try.prog 79 S79 := by
  refine cok79 fun args K0 hS => ?_
  obtain ⟨x_0_79, K, rfl, h, hK⟩ := hS
  refine ⟨by kernel_rfl, by simp, ?_⟩
  unfold W79 at h
  refine AW.sregL [(0, none)] (by kernel_rfl) ?_
  refine l_ds 2 (.one (.d (.bool false))) ?_
  refine l_nil ?_
  refine AW.sregL [(0, none), (1, none), (2, none), (3, none)] (by kernel_rfl) ?_
  refine l_ds 3 (.one (.d (.int .i64 x_0_79))) ?_
  refine l_ds 4 (.one (.d (.int .i64 x_0_79))) ?_
  refine l_ds 5 (.one (.d (.bool (decide (¬ x_0_79 = x_0_79))))) ?_
  refine l_ds 2 (.one (.d (.bool (decide (¬ x_0_79 = x_0_79))))) ?_
  refine l_nil ?_
  refine AW.ret ?_
  exact q_end [.one (.d (.bool (decide (¬ x_0_79 = x_0_79))))] [false] [.one (.d (.bool (decide (¬ x_0_79 = x_0_79))))] [] [] (by kernel_rfl) ⟨by kernel_rfl, by kernel_rfl⟩ (by kernel_rfl) (by kernel_rfl) (by kernel_rfl) (by kernel_rfl) (Eq.mp (by kernel_rfl) (hK (decide (¬ x_0_79 = x_0_79)) h)) (.inr rfl)
def r61_0 : List AR := [⟨some 4, .mov (.c (.int .i64 0)), [], none⟩]
def r61_1 : List AR := [⟨some 7, .mov (.t 0), [], none⟩,
  ⟨some 8, .call 79 [.t 7], [0], none⟩,
  ⟨some 5, .mov (.t 8), [1, 1, 0, 1], none⟩]
def r61_2 : List AR := [⟨some 9, .mov (.t 1), [], none⟩,
  ⟨some 10, .call 79 [.t 9], [0], none⟩,
  ⟨some 6, .mov (.t 10), [1, 1, 0, 1], none⟩]
def r61_3 : List AR := [⟨some 11, .mov (.t 5), [], none⟩]
def r61_4 : List AR := [⟨some 12, .mov (.t 6), [], none⟩]
def r61_5 : List AR := [⟨some 4, .mov (.c (.int .i64 0)), [], none⟩]
def r61_6 : List AR := [⟨some 4, .mov (.c (.int .i64 (-1))), [], none⟩]
def r61_7 : List AR := [⟨some 13, .mov (.t 6), [], none⟩]
def r61_8 : List AR := [⟨some 4, .mov (.c (.int .i64 1)), [], none⟩]
def r61_9 : List AR := [⟨some 14, .mov (.t 0), [], none⟩,
  ⟨some 15, .mov (.t 1), [], none⟩,
  ⟨some 16, .bin .lss (.t 14) (.t 15), [0, 1], none⟩]
def r61_10 : List AR := [⟨some 4, .mov (.c (.int .i64 (-1))), [], none⟩]
def r61_11 : List AR := [⟨some 17, .mov (.t 0), [], none⟩,
  ⟨some 18, .mov (.t 1), [], none⟩,
  ⟨some 19, .bin .gtr (.t 17) (.t 18), [0, 1], none⟩]
def r61_12 : List AR := [⟨some 4, .mov (.c (.int .i64 1)), [], none⟩]
def r61_13 : List AR := [⟨some 4, .mov (.c (.int .i64 0)), [], none⟩]
def c61 : ACode := .seq (.reg r61_0 false) (.seq (.reg r61_1 false) (.seq (.reg r61_2 false) (.seq (.seq (.reg r61_3 false) (.cond (.t 11) (.seq (.seq (.reg r61_4 false) (.cond (.t 12) (.seq (.reg r61_5 false) (.ret)) (.skip))) (.seq (.reg r61_6 false) (.ret))) (.skip))) (.seq (.seq (.reg r61_7 false) (.cond (.t 13) (.seq (.reg r61_8 false) (.ret)) (.skip))) (.seq (.seq (.reg r61_9 false) (.cond (.t 16) (.seq (.reg r61_10 false) (.ret)) (.skip))) (.seq (.seq (.reg r61_11 false) (.cond (.t 19) (.seq (.reg r61_12 false) (.ret)) (.skip))) (.seq (.reg r61_13 false) (.ret))))))))
theorem body61 : Try.f61.body.map (comp Try.prog 20) = some c61 := by kernel_rfl
theorem res61 : allSome (Try.f61.results.toList.map (compRes Try.prog)) = some [.s 4] := by kernel_rfl
theorem cok61 {S : FSpec} (h : ∀ args K, S args K → args.all argOk = true ∧ args.length ≤ 20 ∧ AW Try.prog 20 (some ownP) c61 (initS args) (retPost [.s 4] args K)) : COK Try.prog 61 S := of_body Try.func61 Try.ntmps61 body61 res61 h

/-- cmp.Compare[int] -/
def W61 (x_0_61 : Int) (y_61 : Int) (K : Int → Prop) : Prop :=
  W79 x_0_61 fun r3162 => W79 y_61 fun r3164 => Cond r3162 (Cond r3164 (K 0) (K (-1))) (Cond r3164 (K 1) (Cond (decide (x_0_61 < y_61)) (K (-1)) (Cond (decide (x_0_61 > y_61)) (K 1) (K 0))))

def S61 : FSpec := fun args K => ∃ (x_0_61 : Int), ∃ (y_61 : Int), ∃ (Kr : Int → Prop), args = [.one (.d (.int .i64 x_0_61)), .one (.d (.int .i64 y_61))] ∧ W61 x_0_61 y_61 Kr ∧ ∀ r, Kr r → K (.one (.d (.int .i64 r))) []

theorem en61 : enters Try.prog 61 = true := by unfold enters; rw [Try.func61]; rfl
theorem cl61 (x_0_61 : Int) (y_61 : Int) {Kr : Int → Prop} (h : W61 x_0_61 y_61 Kr) : S61 [.one (.d (.int .i64 x_0_61)), .one (.d (.int .i64 y_61))] (fun rv rows => ∃ r, rv = (.one (.d (.int .i64 r))) ∧ rows = [] ∧ Kr r) := ⟨x_0_61, y_61, Kr, rfl, h, fun r hr => ⟨r, rfl, rfl, hr⟩⟩

theorem ok61 : COK Try.prog 61 S61 := by
  refine cok61 fun args K0 hS => ?_
  obtain ⟨x_0_61, y_61, K, rfl, h, hK⟩ := hS
  refine ⟨by kernel_rfl, by simp, ?_⟩
  unfold W61 at h
  refine AW.sregL [(0, none)] (by kernel_rfl) ?_
  refine l_ds 4 (.one (.d (.int .i64 0))) ?_
  refine l_nil ?_
  refine AW.sregL [(0, none), (1, none), (2, none)] (by kernel_rfl) ?_
  refine l_ds 7 (.one (.d (.int .i64 x_0_61))) ?_
  refine l_call ok79 en79 (some 8) [.one (.d (.int .i64 x_0_61))] [false] [.one (.d (.int .i64 x_0_61))] [] (by kernel_rfl) ⟨by kernel_rfl, by kernel_rfl⟩ (by kernel_rfl) (by kernel_rfl) (by kernel_rfl) (cl79 x_0_61 h) ?_
  rintro hR _ _ ⟨r3162, rfl, rfl, h⟩
  refine ⟨false, (.one (.d (.bool r3162)), []), (fun hz => (by cases hz)), (ret_R hR (by kernel_rfl)), ?_⟩
  refine l_ds 5 (.one (.d (.bool r3162))) ?_
  refine l_nil ?_
  refine AW.sregL [(0, none), (1, none), (2, none)] (by kernel_rfl) ?_
  refine l_ds 9 (.one (.d (.int .i64 y_61))) ?_
  refine l_call ok79 en79 (some 10) [.one (.d (.int .i64 y_61))] [false] [.one (.d (.int .i64 y_61))] [] (by kernel_rfl) ⟨by kernel_rfl, by kernel_rfl⟩ (by kernel_rfl) (by kernel_rfl) (by kernel_rfl) (cl79 y_61 h) ?_
  rintro hR _ _ ⟨r3164, rfl, rfl, h⟩
  refine ⟨false, (.one (.d (.bool r3164)), []), (fun hz => (by cases hz)), (ret_R hR (by kernel_rfl)), ?_⟩
  refine l_ds 6 (.one (.d (.bool r3164))) ?_
  refine l_nil ?_
  refine AW.seq ?_
  refine AW.sregL [(0, none)] (by kernel_rfl) ?_
  refine l_ds 11 (.one (.d (.bool r3162))) ?_
  refine l_nil ?_
  refine AW.cond' (by kernel_rfl) h (fun h => ?_) (fun h => ?_)
  · refine AW.seq ?_
    refine AW.sregL [(0, none)] (by kernel_rfl) ?_
    refine l_ds 12 (.one (.d (.bool r3164))) ?_
    refine l_nil ?_
    refine AW.cond' (by kernel_rfl) h (fun h => ?_) (fun h => ?_)
    · refine AW.sregL [(0, none)] (by kernel_rfl) ?_
      refine l_ds 4 (.one (.d (.int .i64 0))) ?_
      refine l_nil ?_
      refine AW.ret ?_
      refine q_ret ?_
      refine q_ret ?_
      exact q_end [.one (.d (.int .i64 0))] [false] [.one (.d (.int .i64 0))] [] [] (by kernel_rfl) ⟨by kernel_rfl, by kernel_rfl⟩ (by kernel_rfl) (by kernel_rfl) (by kernel_rfl) (by kernel_rfl) (Eq.mp (by kernel_rfl) (hK 0 h)) (.inr rfl)
    · refine AW.skip ?_
      refine q_fall ?_
      refine AW.sregL [(0, none)] (by kernel_rfl) ?_
      refine l_ds 4 (.one (.d (.int .i64 (-1)))) ?_
      refine l_nil ?_
      refine AW.ret ?_
      refine q_ret ?_
      exact q_end [.one (.d (.int .i64 (-1)))] [false] [.one (.d (.int .i64 (-1)))] [] [] (by kernel_rfl) ⟨by kernel_rfl, by kernel_rfl⟩ (by kernel_rfl) (by kernel_rfl) (by kernel_rfl) (by kernel_rfl) (Eq.mp (by kernel_rfl) (hK (-1) h)) (.inr rfl)
  · refine AW.skip ?_
    refine q_fall ?_
    refine AW.seq ?_
    refine AW.sregL [(0, none)] (by kernel_rfl) ?_
    refine l_ds 13 (.one (.d (.bool r3164))) ?_
    refine l_nil ?_
    refine AW.cond' (by kernel_rfl) h (fun h => ?_) (fun h => ?_)
    · refine AW.sregL [(0, none)] (by kernel_rfl) ?_
      refine l_ds 4 (.one (.d (.int .i64 1))) ?_
      refine l_nil ?_
      refine AW.ret ?_
      refine q_ret ?_
      exact q_end [.one (.d (.int .i64 1))] [false] [.one (.d (.int .i64 1))] [] [] (by kernel_rfl) ⟨by kernel_rfl, by kernel_rfl⟩ (by kernel_rfl) (by kernel_rfl) (by kernel_rfl) (by kernel_rfl) (Eq.mp (by kernel_rfl) (hK 1 h)) (.inr rfl)
    · refine AW.skip ?_
      refine q_fall ?_
      refine AW.seq ?_
      refine AW.sregL [(0, none), (1, none), (2, none)] (by kernel_rfl) ?_
      refine l_ds 14 (.one (.d (.int .i64 x_0_61))) ?_
      refine l_ds 15 (.one (.d (.int .i64 y_61))) ?_
      refine l_ds 16 (.one (.d (.bool (decide (x_0_61 < y_61))))) ?_
      refine l_nil ?_
      refine AW.cond' (by kernel_rfl) h (fun h => ?_) (fun h => ?_)
      · refine AW.sregL [(0, none)] (by kernel_rfl) ?_
        refine l_ds 4 (.one (.d (.int .i64 (-1)))) ?_
        refine l_nil ?_
        refine AW.ret ?_
        refine q_ret ?_
        exact q_end [.one (.d (.int .i64 (-1)))] [false] [.one (.d (.int .i64 (-1)))] [] [] (by kernel_rfl) ⟨by kernel_rfl, by kernel_rfl⟩ (by kernel_rfl) (by kernel_rfl) (by kernel_rfl) (by kernel_rfl) (Eq.mp (by kernel_rfl) (hK (-1) h)) (.inr rfl)
      · refine AW.skip ?_
        refine q_fall ?_
        refine AW.seq ?_
        refine AW.sregL [(0, none), (1, none), (2, none)] (by kernel_rfl) ?_
        refine l_ds 17 (.one (.d (.int .i64 x_0_61))) ?_
        refine l_ds 18 (.one (.d (.int .i64 y_61))) ?_
        refine l_ds 19 (.one (.d (.bool (decide (x_0_61 > y_61))))) ?_
        refine l_nil ?_
        refine AW.cond' (by kernel_rfl) h (fun h => ?_) (fun h => ?_)
        · refine AW.sregL [(0, none)] (by kernel_rfl) ?_
          refine l_ds 4 (.one (.d (.int .i64 1))) ?_
          refine l_nil ?_
          refine AW.ret ?_
          refine q_ret ?_
          exact q_end [.one (.d (.int .i64 1))] [false] [.one (.d (.int .i64 1))] [] [] (by kernel_rfl) ⟨by kernel_rfl, by kernel_rfl⟩ (by kernel_rfl) (by kernel_rfl) (by kernel_rfl) (by kernel_rfl) (Eq.mp (by kernel_rfl) (hK 1 h)) (.inr rfl)
        · refine AW.skip ?_
          refine q_fall ?_
          refine AW.sregL [(0, none)] (by kernel_rfl) ?_
          refine l_ds 4 (.one (.d (.int .i64 0))) ?_
          refine l_nil ?_
          refine AW.ret ?_
          exact q_end [.one (.d (.int .i64 0))] [false] [.one (.d (.int .i64 0))] [] [] (by kernel_rfl) ⟨by kernel_rfl, by kernel_rfl⟩ (by kernel_rfl) (by kernel_rfl) (by kernel_rfl) (by kernel_rfl) (Eq.mp (by kernel_rfl) (hK 0 h)) (.inr rfl)
def r77_0 : List AR := [⟨some 2, .box 146 true 2 (.t 0), [], none⟩,
  ⟨some 3, .box 146 true 2 (.t 1), [], none⟩,
  ⟨some 4, .mov (.c (.int .i64 0)), [], none⟩]
def r77_1 : List AR := [⟨some 5, .fad (.t 2) 0, [], none⟩,
  ⟨some 6, .ld false 1 (.t 5), [0], none⟩,
  ⟨some 7, .fad (.t 3) 0, [], none⟩,
  ⟨some 8, .ld false 1 (.t 7), [2], none⟩,
  ⟨some 9, .call 61 [.t 6, .t 8], [1, 3], none⟩,
  ⟨some 10, .fad (.t 2) 1, [], none⟩,
  ⟨some 11, .ld false 1 (.t 10), [5], none⟩,
  ⟨some 12, .fad (.t 3) 1, [], none⟩,
  ⟨some 13, .ld false 1 (.t 12), [7], none⟩,
  ⟨some 14, .call 61 [.t 11, .t 13], [6, 8, 4], none⟩,
  ⟨some 15, .bsl 3 1 2 [.int .i64 0] [(0, .t 9), (1, .t 14)], [4, 9], none⟩,
  ⟨some 16, .call 81 [.t 15], [10, 9], none⟩,
  ⟨some 4, .mov (.t 16), [11, 11, 0, 1, 2, 3, 4, 5, 6, 7, 8, 9, 10, 11], none⟩]
def c77 : ACode := .seq (.reg r77_0 false) (.seq (.reg r77_1 true) (.ret))
theorem body77 : Try.f77.body.map (comp Try.prog 17) = some c77 := by kernel_rfl
theorem res77 : allSome (Try.f77.results.toList.map (compRes Try.prog)) = some [.s 4] := by kernel_rfl
theorem cok77 {S : FSpec} (h : ∀ args K, S args K → args.all argOk = true ∧ args.length ≤ 17 ∧ AW Try.prog 17 (some ownP) c77 (initS args) (retPost [.s 4] args K)) : COK Try.prog 77 S := of_body Try.func77 Try.ntmps77 body77 res77 h

/-- sleuth/span.CompareRefs -/
def W77 (a_77 : TRef) (b_77 : TRef) (K : Int → Prop) : Prop :=
  W61 a_77.trace b_77.trace fun r3168 => W61 a_77.id b_77.id fun r3169 => W81 [r3168, r3169] fun r3170 => K r3170

def S77 : FSpec := fun args K => ∃ (a_77 : TRef), ∃ (b_77 : TRef), ∃ (Kr : Int → Prop), args = [.agg (List.map RC.d (TRef.enc a_77)), .agg (List.map RC.d (TRef.enc b_77))] ∧ W77 a_77 b_77 Kr ∧ ∀ r, Kr r → K (.one (.d (.int .i64 r))) []

theorem en77 : enters Try.prog 77 = true := by unfold enters; rw [Try.func77]; rfl
theorem cl77 (a_77 : TRef) (b_77 : TRef) {Kr : Int → Prop} (h : W77 a_77 b_77 Kr) : S77 [.agg (List.map RC.d (TRef.enc a_77)), .agg (List.map RC.d (TRef.enc b_77))] (fun rv rows => ∃ r, rv = (.one (.d (.int .i64 r))) ∧ rows = [] ∧ Kr r) := ⟨a_77, b_77, Kr, rfl, h, fun r hr => ⟨r, rfl, rfl, hr⟩⟩

theorem ok77 : COK Try.prog 77 S77 := by
  refine cok77 fun args K0 hS => ?_
  obtain ⟨a_77, b_77, K, rfl, h, hK⟩ := hS
  refine ⟨by kernel_rfl, by simp, ?_⟩
  unfold W77 at h
  refine AW.sregL [(0, none), (1, none), (2, none)] (by kernel_rfl) ?_
  refine l_det (some 2) (.one (.ref 2 1 0 0), [(2, 1, .row true 146 2 [[.d (.int .i64 a_77.trace), .d (.int .i64 a_77.id)]])]) (by kernel_rfl) ?_
  refine l_det (some 3) (.one (.ref 3 1 0 0), [(3, 1, .row true 146 2 [[.d (.int .i64 b_77.trace), .d (.int .i64 b_77.id)]])]) (by kernel_rfl) ?_
  refine l_ds 4 (.one (.d (.int .i64 0))) ?_
  refine l_nil ?_
  refine AW.sregdL follows_mixed [[], [0], [], [2], [0, 1, 2, 3], [], [5], [], [7], [0, 1, 2, 3, 4, 5, 6, 7, 8], [0, 1, 2, 3, 4, 5, 6, 7, 8, 9], [0, 1, 2, 3, 4, 5, 6, 7, 8, 9, 10], [0, 1, 2, 3, 4, 5, 6, 7, 8, 9, 10, 11]] [(0, none), (1, none), (2, none), (3, none), (5, none), (6, some [11, 1000002]), (7, none), (8, some [13, 1000003]), (4, some [9]), (9, none), (10, none), (11, none), (12, none)] (by kernel_rfl) ?_
  refine l_ds 5 (.one (.ref 2 1 0 0)) ?_
  refine l_ds 6 (.one (.d (.int .i64 a_77.trace))) ?_
  refine l_ds 7 (.one (.ref 3 1 0 0)) ?_
  refine l_ds 8 (.one (.d (.int .i64 b_77.trace))) ?_
  refine l_ds 10 (.one (.ref 2 1 0 1)) ?_
  refine l_ds 11 (.one (.d (.int .i64 a_77.id))) ?_
  refine l_ds 12 (.one (.ref 3 1 0 1)) ?_
  refine l_ds 13 (.one (.d (.int .i64 b_77.id))) ?_
  refine l_call ok61 en61 (some 9) [.one (.d (.int .i64 a_77.trace)), .one (.d (.int .i64 b_77.trace))] [false, false] [.one (.d (.int .i64 a_77.trace)), .one (.d (.int .i64 b_77.trace))] [] (by kernel_rfl) ⟨by kernel_rfl, by kernel_rfl⟩ (by kernel_rfl) (by kernel_rfl) (by kernel_rfl) (cl61 a_77.trace b_77.trace h) ?_
  rintro hR _ _ ⟨r3168, rfl, rfl, h⟩
  refine ⟨false, (.one (.d (.int .i64 r3168)), []), (fun hz => (by cases hz)), (ret_R hR (by kernel_rfl)), ?_⟩
  refine l_call ok61 en61 (some 14) [.one (.d (.int .i64 a_77.id)), .one (.d (.int .i64 b_77.id))] [false, false] [.one (.d (.int .i64 a_77.id)), .one (.d (.int .i64 b_77.id))] [] (by kernel_rfl) ⟨by kernel_rfl, by kernel_rfl⟩ (by kernel_rfl) (by kernel_rfl) (by kernel_rfl) (cl61 a_77.id b_77.id h) ?_
  rintro hR _ _ ⟨r3169, rfl, rfl, h⟩
  refine ⟨false, (.one (.d (.int .i64 r3169)), []), (fun hz => (by cases hz)), (ret_R hR (by kernel_rfl)), ?_⟩
  refine l_det (some 15) (.one (.view 15 1 0 2), [(15, 1, .row true 3 1 [[.d (.int .i64 r3168)], [.d (.int .i64 r3169)]])]) (by kernel_rfl) ?_
  refine l_call ok81 en81 (some 16) [.one (.view 15 1 0 2)] [false] [.one (.d (.sl [[.int .i64 r3168], [.int .i64 r3169]]))] [15] (by kernel_rfl) ⟨by kernel_rfl, by kernel_rfl⟩ (by kernel_rfl) (by kernel_rfl) (by kernel_rfl) (cl81 [r3168, r3169] h) ?_
  rintro hR _ _ ⟨r3170, rfl, rfl, h⟩
  refine ⟨true, (.one (.d (.int .i64 r3170)), []), (fun _ => (by kernel_rfl)), (by kernel_rfl), ?_⟩
  refine l_ds 4 (.one (.d (.int .i64 r3170))) ?_
  refine l_nil ?_
  refine AW.ret ?_
  exact q_end [.one (.d (.int .i64 r3170))] [false] [.one (.d (.int .i64 r3170))] [] [] (by kernel_rfl) ⟨by kernel_rfl, by kernel_rfl⟩ (by kernel_rfl) (by kernel_rfl) (by kernel_rfl) (by kernel_rfl) (Eq.mp (by kernel_rfl) (hK r3170 h)) (.inr rfl)
end Go.Proofs.Ytnpdeecoejabgaa
