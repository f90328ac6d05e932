/- Go functions: their shallow forms, and that they keep their contracts. Printed by a program of mine (gs.py). -/
import Derived.Test.YtnpdeecoejabgaaFA1
set_option maxRecDepth 100000
set_option linter.unusedVariables false
set_option linter.unusedSimpArgs false
namespace Go.Proofs.Ytnpdeecoejabgaa
open Go Go.RowKit

def r19_0 : List AR := [⟨some 3, .box 50 true 4 (.t 0), [], none⟩,
  ⟨some 6, .mov (.c (.int .i64 0)), [], none⟩,
  ⟨some 7, .mov (.c (.int .i64 0)), [1], none⟩]
def r19_1 : List AR := [⟨some 8, .mov (.c (.int .i64 0)), [], none⟩,
  ⟨some 9, .mov (.c (.int .i64 0)), [0, 0], none⟩]
def r19_2 : List AR := [⟨some 18, .fad (.t 3) 0, [], none⟩,
  ⟨some 19, .ld false 1 (.t 18), [0], none⟩,
  ⟨some 20, .lens (.t 19), [1], none⟩,
  ⟨some 21, .mov (.c (.int .i64 0)), [], none⟩]
def r19_3 : List AR := [⟨some 22, .bin .lss (.t 21) (.t 20), [], none⟩]
def r19_4 : List AR := [⟨some 23, .iad 3 (.t 19) (.t 21), [], none⟩,
  ⟨some 24, .ld true 3 (.t 23), [0], none⟩,
  ⟨some 11, .alloc 53 true [.int .i64 0, .int .i64 0, .nils], [], none⟩,
  ⟨none, .st 3 (.t 11) (.t 24), [2, 1, 0, 1, 2], none⟩]
def r19_5 : List AR := [⟨some 25, .fad (.t 11) 2, [], none⟩,
  ⟨some 26, .ld false 1 (.t 25), [0], none⟩,
  ⟨some 27, .lens (.t 26), [1], none⟩,
  ⟨some 28, .mov (.c (.int .i64 0)), [], none⟩]
def r19_6 : List AR := [⟨some 29, .bin .lss (.t 28) (.t 27), [], none⟩]
def r19_7 : List AR := [⟨some 30, .iad 14 (.t 26) (.t 28), [], none⟩,
  ⟨some 31, .ld true 14 (.t 30), [0], none⟩,
  ⟨some 13, .alloc 58 true [.int .i64 0, .int .i64 0, .int .i64 0, .int .i64 0, .int .i64 0, .int .i64 0, .str ⟨#[]⟩, .str ⟨#[]⟩, .str ⟨#[]⟩, .int .i64 0, .int .i64 0, .bool false, .nils, .nils], [], none⟩,
  ⟨none, .st 14 (.t 13) (.t 31), [2, 1, 0, 1, 2], none⟩]
def r19_8 : List AR := [⟨some 32, .fad (.t 11) 0, [], none⟩,
  ⟨some 33, .ld false 1 (.t 32), [0], none⟩,
  ⟨some 34, .call 18 [.t 33], [1], none⟩,
  ⟨some 35, .mov (.t 1), [], none⟩,
  ⟨some 36, .bin .eql (.t 34) (.t 35), [2, 3], none⟩,
  ⟨some 37, .mov (.t 36), [4, 2], none⟩,
  ⟨some 38, .fad (.t 13) 6, [5], some (37, true)⟩,
  ⟨some 39, .ld false 1 (.t 38), [6, 5], some (37, true)⟩,
  ⟨some 40, .mov (.t 2), [5], some (37, true)⟩,
  ⟨some 41, .bin .eql (.t 39) (.t 40), [7, 8, 5], some (37, true)⟩,
  ⟨some 42, .pick (.t 37) (.t 41) (.c (.bool false)), [5, 9], none⟩]
def r19_9 : List AR := [⟨some 43, .mov (.t 8), [], none⟩,
  ⟨some 44, .bin .add (.t 43) (.c (.int .i64 1)), [0], none⟩,
  ⟨some 8, .mov (.t 44), [1, 0, 1], none⟩]
def r19_10 : List AR := [⟨some 45, .bin .add (.t 28) (.c (.int .i64 1)), [], none⟩,
  ⟨some 28, .mov (.t 45), [0], none⟩]
def r19_11 : List AR := [⟨some 46, .bin .add (.t 21) (.c (.int .i64 1)), [], none⟩,
  ⟨some 21, .mov (.t 46), [0], none⟩]
def r19_12 : List AR := [⟨some 47, .fad (.t 3) 2, [], none⟩,
  ⟨some 48, .ld false 1 (.t 47), [0], none⟩,
  ⟨some 49, .lens (.t 48), [1], none⟩,
  ⟨some 50, .mov (.c (.int .i64 0)), [], none⟩]
def r19_13 : List AR := [⟨some 51, .bin .lss (.t 50) (.t 49), [], none⟩]
def r19_14 : List AR := [⟨some 52, .iad 4 (.t 48) (.t 50), [], none⟩,
  ⟨some 53, .ld true 4 (.t 52), [0], none⟩,
  ⟨some 15, .alloc 60 true [.int .i64 0, .str ⟨#[]⟩, .int .i64 0, .int .i64 0], [], none⟩,
  ⟨none, .st 4 (.t 15) (.t 53), [2, 1, 0, 1, 2], none⟩]
def r19_15 : List AR := [⟨some 54, .fad (.t 15) 0, [], none⟩,
  ⟨some 55, .ld false 1 (.t 54), [0], none⟩,
  ⟨some 56, .mov (.t 1), [], none⟩,
  ⟨some 57, .bin .eql (.t 55) (.t 56), [1, 2], none⟩,
  ⟨some 58, .mov (.t 57), [3], none⟩,
  ⟨some 59, .fad (.t 15) 1, [4], some (58, true)⟩,
  ⟨some 60, .ld false 1 (.t 59), [5, 4], some (58, true)⟩,
  ⟨some 61, .mov (.t 2), [4], some (58, true)⟩,
  ⟨some 62, .bin .eql (.t 60) (.t 61), [6, 7, 4], some (58, true)⟩,
  ⟨some 63, .pick (.t 58) (.t 62) (.c (.bool false)), [4, 8], none⟩]
def r19_16 : List AR := [⟨some 64, .mov (.t 8), [], none⟩,
  ⟨some 65, .fad (.t 15) 2, [], none⟩,
  ⟨some 66, .ld false 1 (.t 65), [1], none⟩,
  ⟨some 67, .bin .add (.t 64) (.t 66), [0, 2], none⟩,
  ⟨some 8, .mov (.t 67), [3, 0, 1, 2, 3], none⟩]
def r19_17 : List AR := [⟨some 68, .bin .add (.t 50) (.c (.int .i64 1)), [], none⟩,
  ⟨some 50, .mov (.t 68), [0], none⟩]
def r19_18 : List AR := [⟨some 69, .fad (.t 3) 3, [], none⟩,
  ⟨some 70, .ld false 1 (.t 69), [0], none⟩,
  ⟨some 71, .lens (.t 70), [1], none⟩,
  ⟨some 72, .mov (.c (.int .i64 0)), [], none⟩]
def r19_19 : List AR := [⟨some 73, .bin .lss (.t 72) (.t 71), [], none⟩]
def r19_20 : List AR := [⟨some 74, .iad 2 (.t 70) (.t 72), [], none⟩,
  ⟨some 75, .ld true 2 (.t 74), [0], none⟩,
  ⟨some 17, .alloc 62 true [.int .i64 0, .int .i64 0], [], none⟩,
  ⟨none, .st 2 (.t 17) (.t 75), [2, 1, 0, 1, 2], none⟩]
def r19_21 : List AR := [⟨some 76, .fad (.t 17) 0, [], none⟩,
  ⟨some 77, .ld false 1 (.t 76), [0], none⟩,
  ⟨some 78, .mov (.t 1), [], none⟩,
  ⟨some 79, .bin .eql (.t 77) (.t 78), [1, 2], none⟩]
def r19_22 : List AR := [⟨some 80, .mov (.t 9), [], none⟩,
  ⟨some 81, .fad (.t 17) 1, [], none⟩,
  ⟨some 82, .ld false 1 (.t 81), [1], none⟩,
  ⟨some 83, .bin .add (.t 80) (.t 82), [0, 2], none⟩,
  ⟨some 9, .mov (.t 83), [3, 0, 1, 2, 3], none⟩]
def r19_23 : List AR := [⟨some 84, .bin .add (.t 72) (.c (.int .i64 1)), [], none⟩,
  ⟨some 72, .mov (.t 84), [0], none⟩]
def r19_24 : List AR := [⟨some 85, .mov (.t 8), [], none⟩,
  ⟨some 86, .mov (.t 9), [], none⟩,
  ⟨some 87, .bin .sub (.t 85) (.t 86), [0, 1], none⟩,
  ⟨some 88, .mm true [.c (.int .i64 0), .t 87], [2], none⟩,
  ⟨some 89, .mov (.t 8), [], none⟩,
  ⟨some 90, .mov (.t 9), [], none⟩,
  ⟨some 91, .bin .add (.t 89) (.t 90), [4, 5], none⟩,
  ⟨some 6, .mov (.t 88), [3, 0, 1, 2, 3], none⟩,
  ⟨some 7, .mov (.t 91), [6, 7, 0, 1, 2, 3, 4, 5, 6, 7], none⟩]
def c19 : ACode := .seq (.reg r19_0 false) (.seq (.reg r19_1 false) (.seq (.seq (.reg r19_2 false) (.blk 0 (.loop (.seq (.reg r19_3 false) (.seq (.cond (.t 22) (.skip) (.exit 0)) (.seq (.blk 1 (.seq (.reg r19_4 false) (.seq (.reg r19_5 false) (.blk 2 (.loop (.seq (.reg r19_6 false) (.seq (.cond (.t 29) (.skip) (.exit 2)) (.seq (.blk 3 (.seq (.reg r19_7 false) (.seq (.reg r19_8 false) (.cond (.t 42) (.reg r19_9 false) (.skip))))) (.reg r19_10 false))))))))) (.reg r19_11 false))))))) (.seq (.seq (.reg r19_12 false) (.blk 4 (.loop (.seq (.reg r19_13 false) (.seq (.cond (.t 51) (.skip) (.exit 4)) (.seq (.blk 5 (.seq (.reg r19_14 false) (.seq (.reg r19_15 false) (.cond (.t 63) (.reg r19_16 false) (.skip))))) (.reg r19_17 false))))))) (.seq (.seq (.reg r19_18 false) (.blk 6 (.loop (.seq (.reg r19_19 false) (.seq (.cond (.t 73) (.skip) (.exit 6)) (.seq (.blk 7 (.seq (.reg r19_20 false) (.seq (.reg r19_21 false) (.cond (.t 79) (.reg r19_22 false) (.skip))))) (.reg r19_23 false))))))) (.seq (.reg r19_24 false) (.ret))))))
theorem body19 : Try.f19.body.map (comp Try.prog 92) = some c19 := by kernel_rfl
theorem res19 : allSome (Try.f19.results.toList.map (compRes Try.prog)) = some [.s 6, .s 7] := by kernel_rfl
theorem cok19 {S : FSpec} (h : ∀ args K, S args K → args.all argOk = true ∧ args.length ≤ 92 ∧ AW Try.prog 92 (some ownP) c19 (initS args) (retPost [.s 6, .s 7] args K)) : COK Try.prog 19 S := of_body Try.func19 Try.ntmps19 body19 res19 h

def J19_3 (N2225 : (Int × Int) → Prop) (v2205 : Int) (v2238 : Int) : Prop :=
  N2225 (v2238, (w64 (v2205 + 1)))

def J19_4 (N2225 : (Int × Int) → Prop) (v2205 : Int) (v2204 : Int) (v2243 : Bool) : Prop :=
  Cond v2243 (J19_3 N2225 v2205 (w64 (v2204 + 1))) (J19_3 N2225 v2205 v2204)

def L19_2 (x2184 : TTrace) (partition_19 : Int) (service_19 : ByteArray) (N2120 : (Int × Int) → Prop) (v1995 : Int) (v2204 : Int) (v2205 : Int) (N2225 : (Int × Int) → Prop) : Prop :=
  Cond (decide (v2205 < (x2184.spans.length : Int))) (Idx x2184.spans v2205 fun x2240 => W18 x2184.id fun r2244 => Cond (decide (r2244 = partition_19)) (J19_4 N2225 v2205 v2204 (decide (x2240.service = service_19))) (J19_4 N2225 v2205 v2204 false)) (N2120 (v2204, (w64 (v1995 + 1))))

def J19_6 (N2300 : (Int × Int) → Prop) (v2289 : Int) (v2307 : Int) : Prop :=
  N2300 (v2307, (w64 (v2289 + 1)))

def J19_7 (N2300 : (Int × Int) → Prop) (v2289 : Int) (v2288 : Int) (x2309 : TRemoved) (v2310 : Bool) : Prop :=
  Cond v2310 (J19_6 N2300 v2289 (w64 (v2288 + x2309.spans))) (J19_6 N2300 v2289 v2288)

def J19_9 (N2351 : (Int × Int) → Prop) (v2343 : Int) (v2356 : Int) : Prop :=
  N2351 (v2356, (w64 (v2343 + 1)))

def L19_8 (r_0_19 : TRetained) (partition_19 : Int) (K : (Int × Int) → Prop) (v2288 : Int) (v2342 : Int) (v2343 : Int) (N2351 : (Int × Int) → Prop) : Prop :=
  Cond (decide (v2343 < (r_0_19.late.length : Int))) (Idx r_0_19.late v2343 fun x2358 => Cond (decide (x2358.partition = partition_19)) (J19_9 N2351 v2343 (w64 (v2342 + x2358.spans))) (J19_9 N2351 v2343 v2342)) (K ((if (w64 (v2288 - v2342)) > 0 then (w64 (v2288 - v2342)) else 0), (w64 (v2288 + v2342))))

def L19_5 (r_0_19 : TRetained) (partition_19 : Int) (service_19 : ByteArray) (K : (Int × Int) → Prop) (v2288 : Int) (v2289 : Int) (N2300 : (Int × Int) → Prop) : Prop :=
  Cond (decide (v2289 < (r_0_19.removed.length : Int))) (Idx r_0_19.removed v2289 fun x2309 => Cond (decide (x2309.partition = partition_19)) (J19_7 N2300 v2289 v2288 x2309 (decide (x2309.service = service_19))) (J19_7 N2300 v2289 v2288 x2309 false)) (LoopW (fun (s : (Int × Int)) N2351 => L19_8 r_0_19 partition_19 K v2288 s.1 s.2 N2351) (0, 0))

def L19_1 (r_0_19 : TRetained) (partition_19 : Int) (service_19 : ByteArray) (K : (Int × Int) → Prop) (v1994 : Int) (v1995 : Int) (N2120 : (Int × Int) → Prop) : Prop :=
  Cond (decide (v1995 < (r_0_19.traces.length : Int))) (Idx r_0_19.traces v1995 fun x2184 => LoopW (fun (s : (Int × Int)) N2225 => L19_2 x2184 partition_19 service_19 N2120 v1995 s.1 s.2 N2225) (v1994, 0)) (LoopW (fun (s : (Int × Int)) N2300 => L19_5 r_0_19 partition_19 service_19 K s.1 s.2 N2300) (v1994, 0))

/-- sleuth/estimate.Count -/
def W19 (r_0_19 : TRetained) (partition_19 : Int) (service_19 : ByteArray) (K : (Int × Int) → Prop) : Prop :=
  LoopW (fun (s : (Int × Int)) N2120 => L19_1 r_0_19 partition_19 service_19 K s.1 s.2 N2120) (0, 0)

def S19 : FSpec := fun args K => ∃ (r_0_19 : TRetained), ∃ (partition_19 : Int), ∃ (service_19 : ByteArray), ∃ (Kr : (Int × Int) → Prop), args = [.agg (List.map RC.d (TRetained.enc r_0_19)), .one (.d (.int .i64 partition_19)), .one (.d (.str service_19))] ∧ W19 r_0_19 partition_19 service_19 Kr ∧ ∀ r, Kr r → K (.tup [.one (.d (.int .i64 r.1)), .one (.d (.int .i64 r.2))]) []

theorem en19 : enters Try.prog 19 = true := by unfold enters; rw [Try.func19]; rfl
theorem cl19 (r_0_19 : TRetained) (partition_19 : Int) (service_19 : ByteArray) {Kr : (Int × Int) → Prop} (h : W19 r_0_19 partition_19 service_19 Kr) : S19 [.agg (List.map RC.d (TRetained.enc r_0_19)), .one (.d (.int .i64 partition_19)), .one (.d (.str service_19))] (fun rv rows => ∃ r, rv = (.tup [.one (.d (.int .i64 r.1)), .one (.d (.int .i64 r.2))]) ∧ rows = [] ∧ Kr r) := ⟨r_0_19, partition_19, service_19, Kr, rfl, h, fun r hr => ⟨r, rfl, rfl, hr⟩⟩

theorem ok19 : COK Try.prog 19 S19 := by
  refine cok19 fun args K0 hS => ?_
  obtain ⟨r_0_19, partition_19, service_19, K, rfl, h, hK⟩ := hS
  refine ⟨by kernel_rfl, by simp, ?_⟩
  unfold W19 at h
  refine AW.sregL [(0, none), (1, none), (2, none)] (by kernel_rfl) ?_
  refine l_det (some 3) (.one (.ref 3 1 0 0), [(3, 1, .row true 50 4 [[.d (.sl (List.map TTrace.enc r_0_19.traces)), .d (.sl (List.map TExchange.enc r_0_19.exchanges)), .d (.sl (List.map TRemoved.enc r_0_19.removed)), .d (.sl (List.map TLate.enc r_0_19.late))]])]) (by kernel_rfl) ?_
  refine l_ds 6 (.one (.d (.int .i64 0))) ?_
  refine l_ds 7 (.one (.d (.int .i64 0))) ?_
  refine l_nil ?_
  refine AW.sregL [(0, none), (1, none)] (by kernel_rfl) ?_
  refine l_ds 8 (.one (.d (.int .i64 0))) ?_
  refine l_ds 9 (.one (.d (.int .i64 0))) ?_
  refine l_nil ?_
  refine AW.seq ?_
  refine AW.sregL [(0, none), (1, none), (2, none), (3, none)] (by kernel_rfl) ?_
  refine l_ds 18 (.one (.ref 3 1 0 0)) ?_
  refine l_ds 19 (.one (.d (.sl (List.map TTrace.enc r_0_19.traces)))) ?_
  refine l_spec (some 20) (.lens (.t 19)) (.one (.d (.int .i64 (r_0_19.traces.length : Int))), []) (by kernel_rfl) (detA_none (d_lens_sl (enc := TTrace.enc) r_0_19.traces (by kernel_rfl))) ?_
  refine l_ds 21 (.one (.d (.int .i64 0))) ?_
  refine l_nil ?_
  refine AW.blk ?_
  refine AW.loopL (S := (Int × Int)) (fun s => (fun (v1994 : Int) (v1995 : Int) => [(1, .one (.d (.int .i64 partition_19))), (2, .one (.d (.str service_19))), (3, .one (.ref 200001 0 0 0)), (8, .one (.d (.int .i64 v1994))), (9, .one (.d (.int .i64 0))), (19, .one (.d (.sl (List.map TTrace.enc r_0_19.traces)))), (20, .one (.d (.int .i64 (r_0_19.traces.length : Int)))), (21, .one (.d (.int .i64 v1995)))]) s.1 s.2) (fun s => (fun (v1994 : Int) (v1995 : Int) => [(200001, .expl true 50 4 [[.d (.sl (List.map TTrace.enc r_0_19.traces)), .d (.sl (List.map TExchange.enc r_0_19.exchanges)), .d (.sl (List.map TRemoved.enc r_0_19.removed)), .d (.sl (List.map TLate.enc r_0_19.late))]])]) s.1 s.2) (fun (s : (Int × Int)) N2120 => L19_1 r_0_19 partition_19 service_19 K s.1 s.2 N2120) (N := fun s => LoopW (fun (s : (Int × Int)) N2120 => L19_1 r_0_19 partition_19 service_19 K s.1 s.2 N2120) s) (Lab.m (0, 0) [(200001, some 3)] h) (fun _ h => h) ?_
  rintro ⟨v1994, v1995⟩ N2120 h
  have h : L19_1 r_0_19 partition_19 service_19 K v1994 v1995 N2120 := h
  unfold L19_1 at h
  refine AW.sregL [(0, none)] (by kernel_rfl) ?_
  refine l_ds 22 (.one (.d (.bool (decide (v1995 < (r_0_19.traces.length : Int)))))) ?_
  refine l_nil ?_
  refine AW.seq ?_
  refine AW.cond' (by kernel_rfl) h (fun h => ?_) (fun h => ?_)
  · refine AW.skip ?_
    refine q_fall ?_
    refine AW.seq ?_
    refine AW.blk ?_
    refine AW.sregL [(0, none), (1, none), (2, none), (3, none)] (by kernel_rfl) ?_
    obtain ⟨h740, x2184, h741, h⟩ := h
    refine l_spec (some 23) (.iad 3 (.t 19) (.t 21)) (.one (.d (.ptr [.int .i64 x2184.id, .int .i64 x2184.weight, .sl (List.map TSpan.enc x2184.spans)])), []) (by kernel_rfl) (detA_none (d_iad_sl (enc := TTrace.enc) (k := .i64) r_0_19.traces x2184 (by kernel_rfl) (by kernel_rfl) h740 h741 rfl)) ?_
    refine l_ds 24 (.agg [.d (.int .i64 x2184.id), .d (.int .i64 x2184.weight), .d (.sl (List.map TSpan.enc x2184.spans))]) ?_
    refine l_det (some 11) (.one (.ref 11 1 0 0), [(11, 1, .row true 53 3 [[.d (.int .i64 0), .d (.int .i64 0), .nils]])]) (by kernel_rfl) ?_
    refine l_det none (.tup [], [(11, 1, .row true 53 3 [[.d (.int .i64 x2184.id), .d (.int .i64 x2184.weight), .d (.sl (List.map TSpan.enc x2184.spans))]])]) (by kernel_rfl) ?_
    refine l_nil ?_
    refine AW.sregL [(0, none), (1, none), (2, none), (3, none)] (by kernel_rfl) ?_
    refine l_ds 25 (.one (.ref 11 1 0 2)) ?_
    refine l_ds 26 (.one (.d (.sl (List.map TSpan.enc x2184.spans)))) ?_
    refine l_spec (some 27) (.lens (.t 26)) (.one (.d (.int .i64 (x2184.spans.length : Int))), []) (by kernel_rfl) (detA_none (d_lens_sl (enc := TSpan.enc) x2184.spans (by kernel_rfl))) ?_
    refine l_ds 28 (.one (.d (.int .i64 0))) ?_
    refine l_nil ?_
    refine AW.blk ?_
    refine AW.loopL (S := (Int × Int)) (fun s => (fun (v2204 : Int) (v2205 : Int) => [(1, .one (.d (.int .i64 partition_19))), (2, .one (.d (.str service_19))), (3, .one (.ref 200001 0 0 0)), (8, .one (.d (.int .i64 v2204))), (9, .one (.d (.int .i64 0))), (11, .one (.ref 200002 0 0 0)), (19, .one (.d (.sl (List.map TTrace.enc r_0_19.traces)))), (20, .one (.d (.int .i64 (r_0_19.traces.length : Int)))), (21, .one (.d (.int .i64 v1995))), (26, .one (.d (.sl (List.map TSpan.enc x2184.spans)))), (27, .one (.d (.int .i64 (x2184.spans.length : Int)))), (28, .one (.d (.int .i64 v2205)))]) s.1 s.2) (fun s => (fun (v2204 : Int) (v2205 : Int) => [(200001, .expl true 50 4 [[.d (.sl (List.map TTrace.enc r_0_19.traces)), .d (.sl (List.map TExchange.enc r_0_19.exchanges)), .d (.sl (List.map TRemoved.enc r_0_19.removed)), .d (.sl (List.map TLate.enc r_0_19.late))]]), (200002, .expl true 53 3 [[.d (.int .i64 x2184.id), .d (.int .i64 x2184.weight), .d (.sl (List.map TSpan.enc x2184.spans))]])]) s.1 s.2) (fun (s : (Int × Int)) N2225 => L19_2 x2184 partition_19 service_19 N2120 v1995 s.1 s.2 N2225) (N := fun s => LoopW (fun (s : (Int × Int)) N2225 => L19_2 x2184 partition_19 service_19 N2120 v1995 s.1 s.2 N2225) s) (Lab.m (v1994, 0) [(200001, some 200001), (200002, some 11)] h) (fun _ h => h) ?_
    rintro ⟨v2204, v2205⟩ N2225 h
    have h : L19_2 x2184 partition_19 service_19 N2120 v1995 v2204 v2205 N2225 := h
    unfold L19_2 at h
    refine AW.sregL [(0, none)] (by kernel_rfl) ?_
    refine l_ds 29 (.one (.d (.bool (decide (v2205 < (x2184.spans.length : Int)))))) ?_
    refine l_nil ?_
    refine AW.seq ?_
    refine AW.cond' (by kernel_rfl) h (fun h => ?_) (fun h => ?_)
    · refine AW.skip ?_
      refine q_fall ?_
      refine AW.seqL (S := Int) (fun s => (fun (v2238 : Int) => [(1, .one (.d (.int .i64 partition_19))), (2, .one (.d (.str service_19))), (3, .one (.ref 200001 0 0 0)), (8, .one (.d (.int .i64 v2238))), (9, .one (.d (.int .i64 0))), (11, .one (.ref 200002 0 0 0)), (19, .one (.d (.sl (List.map TTrace.enc r_0_19.traces)))), (20, .one (.d (.int .i64 (r_0_19.traces.length : Int)))), (21, .one (.d (.int .i64 v1995))), (26, .one (.d (.sl (List.map TSpan.enc x2184.spans)))), (27, .one (.d (.int .i64 (x2184.spans.length : Int)))), (28, .one (.d (.int .i64 v2205)))]) s) (fun s => (fun (v2238 : Int) => [(200001, .expl true 50 4 [[.d (.sl (List.map TTrace.enc r_0_19.traces)), .d (.sl (List.map TExchange.enc r_0_19.exchanges)), .d (.sl (List.map TRemoved.enc r_0_19.removed)), .d (.sl (List.map TLate.enc r_0_19.late))]]), (200002, .expl true 53 3 [[.d (.int .i64 x2184.id), .d (.int .i64 x2184.weight), .d (.sl (List.map TSpan.enc x2184.spans))]])]) s) (fun s : Int => J19_3 N2225 v2205 s) ?_ ?_
      · refine AW.blk ?_
        refine AW.sregL [(0, none), (1, none), (2, none), (3, none)] (by kernel_rfl) ?_
        obtain ⟨h800, x2240, h801, h⟩ := h
        refine l_spec (some 30) (.iad 14 (.t 26) (.t 28)) (.one (.d (.ptr [.int .i64 x2240.trace, .int .i64 x2240.id, .int .i64 x2240.parent, .int .i64 x2240.revision, .int .i64 x2240.clock, .int .i64 x2240.kind, .str x2240.service, .str x2240.version, .str x2240.operation, .int .i64 x2240.start, .int .i64 x2240.end_, .bool x2240.error, .sl (List.map TAttr.enc x2240.attrs), .sl (List.map TRef.enc x2240.links)])), []) (by kernel_rfl) (detA_none (d_iad_sl (enc := TSpan.enc) (k := .i64) x2184.spans x2240 (by kernel_rfl) (by kernel_rfl) h800 h801 rfl)) ?_
        refine l_ds 31 (.agg [.d (.int .i64 x2240.trace), .d (.int .i64 x2240.id), .d (.int .i64 x2240.parent), .d (.int .i64 x2240.revision), .d (.int .i64 x2240.clock), .d (.int .i64 x2240.kind), .d (.str x2240.service), .d (.str x2240.version), .d (.str x2240.operation), .d (.int .i64 x2240.start), .d (.int .i64 x2240.end_), .d (.bool x2240.error), .d (.sl (List.map TAttr.enc x2240.attrs)), .d (.sl (List.map TRef.enc x2240.links))]) ?_
        refine l_det (some 13) (.one (.ref 13 1 0 0), [(13, 1, .row true 58 14 [[.d (.int .i64 0), .d (.int .i64 0), .d (.int .i64 0), .d (.int .i64 0), .d (.int .i64 0), .d (.int .i64 0), .d (.str (⟨#[]⟩ : ByteArray)), .d (.str (⟨#[]⟩ : ByteArray)), .d (.str (⟨#[]⟩ : ByteArray)), .d (.int .i64 0), .d (.int .i64 0), .d (.bool false), .nils, .nils]])]) (by kernel_rfl) ?_
        refine l_det none (.tup [], [(13, 1, .row true 58 14 [[.d (.int .i64 x2240.trace), .d (.int .i64 x2240.id), .d (.int .i64 x2240.parent), .d (.int .i64 x2240.revision), .d (.int .i64 x2240.clock), .d (.int .i64 x2240.kind), .d (.str x2240.service), .d (.str x2240.version), .d (.str x2240.operation), .d (.int .i64 x2240.start), .d (.int .i64 x2240.end_), .d (.bool x2240.error), .d (.sl (List.map TAttr.enc x2240.attrs)), .d (.sl (List.map TRef.enc x2240.links))]])]) (by kernel_rfl) ?_
        refine l_nil ?_
        refine AW.seqL (S := Bool) (fun s => (fun (v2243 : Bool) => [(1, .one (.d (.int .i64 partition_19))), (2, .one (.d (.str service_19))), (3, .one (.ref 200001 0 0 0)), (8, .one (.d (.int .i64 v2204))), (9, .one (.d (.int .i64 0))), (11, .one (.ref 200002 0 0 0)), (19, .one (.d (.sl (List.map TTrace.enc r_0_19.traces)))), (20, .one (.d (.int .i64 (r_0_19.traces.length : Int)))), (21, .one (.d (.int .i64 v1995))), (26, .one (.d (.sl (List.map TSpan.enc x2184.spans)))), (27, .one (.d (.int .i64 (x2184.spans.length : Int)))), (28, .one (.d (.int .i64 v2205))), (42, .one (.d (.bool v2243)))]) s) (fun s => (fun (v2243 : Bool) => [(200001, .expl true 50 4 [[.d (.sl (List.map TTrace.enc r_0_19.traces)), .d (.sl (List.map TExchange.enc r_0_19.exchanges)), .d (.sl (List.map TRemoved.enc r_0_19.removed)), .d (.sl (List.map TLate.enc r_0_19.late))]]), (200002, .expl true 53 3 [[.d (.int .i64 x2184.id), .d (.int .i64 x2184.weight), .d (.sl (List.map TSpan.enc x2184.spans))]])]) s) (fun s : Bool => J19_4 N2225 v2205 v2204 s) ?_ ?_
        · refine AW.regL [(0, none), (1, none), (2, none), (3, none), (4, none), (5, none), (6, none), (7, none), (8, none), (9, none), (10, none)] (by kernel_rfl) ?_
          refine l_ds 32 (.one (.ref 200002 0 0 0)) ?_
          refine l_ds 33 (.one (.d (.int .i64 x2184.id))) ?_
          refine l_call ok18 en18 (some 34) [.one (.d (.int .i64 x2184.id))] [false] [.one (.d (.int .i64 x2184.id))] [] (by kernel_rfl) ⟨by kernel_rfl, by kernel_rfl⟩ (by kernel_rfl) (by kernel_rfl) (by kernel_rfl) (cl18 x2184.id h) ?_
          rintro hR _ _ ⟨r2244, rfl, rfl, h⟩
          refine ⟨false, (.one (.d (.int .i64 r2244)), []), (fun hz => (by cases hz)), (ret_R hR (by kernel_rfl)), ?_⟩
          refine l_ds 35 (.one (.d (.int .i64 partition_19))) ?_
          refine l_ds 36 (.one (.d (.bool (decide (r2244 = partition_19))))) ?_
          refine l_ds 37 (.one (.d (.bool (decide (r2244 = partition_19))))) ?_
          refine l_split (s := 37) (by kernel_rfl) h (fun h => ?_) (fun h => ?_)
          · refine l_ds 38 (.one (.ref 13 1 0 6)) ?_
            refine l_ds 39 (.one (.d (.str x2240.service))) ?_
            refine l_ds 40 (.one (.d (.str service_19))) ?_
            refine l_ds 41 (.one (.d (.bool (decide (x2240.service = service_19))))) ?_
            refine l_ds 42 (.one (.d (.bool (decide (x2240.service = service_19))))) ?_
            refine l_nil ?_
            refine q_fall ?_
            exact Lab.m (decide (x2240.service = service_19)) [(200001, some 200001), (200002, some 200002)] h
          · refine l_ds 38 (.tup []) ?_
            refine l_ds 39 (.tup []) ?_
            refine l_ds 40 (.tup []) ?_
            refine l_ds 41 (.tup []) ?_
            refine l_ds 42 (.one (.d (.bool false))) ?_
            refine l_nil ?_
            refine q_fall ?_
            exact Lab.m false [(200001, some 200001), (200002, some 200002)] h
        · rintro v2243 h
          have h : J19_4 N2225 v2205 v2204 v2243 := h
          unfold J19_4 at h
          refine AW.cond' (by kernel_rfl) h (fun h => ?_) (fun h => ?_)
          · refine AW.regL [(0, none), (1, none), (2, none)] (by kernel_rfl) ?_
            refine l_ds 43 (.one (.d (.int .i64 v2204))) ?_
            refine l_ds 44 (.one (.d (.int .i64 (w64 (v2204 + 1))))) ?_
            refine l_ds 8 (.one (.d (.int .i64 (w64 (v2204 + 1))))) ?_
            refine l_nil ?_
            refine q_bfall ?_
            refine q_fall ?_
            exact Lab.m (w64 (v2204 + 1)) [(200001, some 200001), (200002, some 200002)] h
          · refine AW.skip ?_
            refine q_bfall ?_
            refine q_fall ?_
            exact Lab.m v2204 [(200001, some 200001), (200002, some 200002)] h
      · rintro v2238 h
        have h : J19_3 N2225 v2205 v2238 := h
        unfold J19_3 at h
        refine AW.regL [(0, none), (1, none)] (by kernel_rfl) ?_
        refine l_ds 45 (.one (.d (.int .i64 (w64 (v2205 + 1))))) ?_
        refine l_ds 28 (.one (.d (.int .i64 (w64 (v2205 + 1))))) ?_
        refine l_nil ?_
        refine q_fall ?_
        exact Lab.m (v2238, (w64 (v2205 + 1))) [(200001, some 200001), (200002, some 200002)] h
    · refine AW.exit ?_
      refine q_exit ?_
      refine q_exit ?_
      refine q_bhere ?_
      refine q_bfall ?_
      refine q_fall ?_
      refine AW.regL [(0, none), (1, none)] (by kernel_rfl) ?_
      refine l_ds 46 (.one (.d (.int .i64 (w64 (v1995 + 1))))) ?_
      refine l_ds 21 (.one (.d (.int .i64 (w64 (v1995 + 1))))) ?_
      refine l_nil ?_
      refine q_fall ?_
      exact Lab.m (v2204, (w64 (v1995 + 1))) [(200001, some 200001)] h
  · refine AW.exit ?_
    refine q_exit ?_
    refine q_exit ?_
    refine q_bhere ?_
    refine q_fall ?_
    refine AW.seq ?_
    refine AW.sregL [(0, none), (1, none), (2, none), (3, none)] (by kernel_rfl) ?_
    refine l_ds 47 (.one (.ref 200001 0 0 2)) ?_
    refine l_ds 48 (.one (.d (.sl (List.map TRemoved.enc r_0_19.removed)))) ?_
    refine l_spec (some 49) (.lens (.t 48)) (.one (.d (.int .i64 (r_0_19.removed.length : Int))), []) (by kernel_rfl) (detA_none (d_lens_sl (enc := TRemoved.enc) r_0_19.removed (by kernel_rfl))) ?_
    refine l_ds 50 (.one (.d (.int .i64 0))) ?_
    refine l_nil ?_
    refine AW.blk ?_
    refine AW.loopL (S := (Int × Int)) (fun s => (fun (v2288 : Int) (v2289 : Int) => [(1, .one (.d (.int .i64 partition_19))), (2, .one (.d (.str service_19))), (3, .one (.ref 200001 0 0 0)), (8, .one (.d (.int .i64 v2288))), (9, .one (.d (.int .i64 0))), (48, .one (.d (.sl (List.map TRemoved.enc r_0_19.removed)))), (49, .one (.d (.int .i64 (r_0_19.removed.length : Int)))), (50, .one (.d (.int .i64 v2289)))]) s.1 s.2) (fun s => (fun (v2288 : Int) (v2289 : Int) => [(200001, .expl true 50 4 [[.d (.sl (List.map TTrace.enc r_0_19.traces)), .d (.sl (List.map TExchange.enc r_0_19.exchanges)), .d (.sl (List.map TRemoved.enc r_0_19.removed)), .d (.sl (List.map TLate.enc r_0_19.late))]])]) s.1 s.2) (fun (s : (Int × Int)) N2300 => L19_5 r_0_19 partition_19 service_19 K s.1 s.2 N2300) (N := fun s => LoopW (fun (s : (Int × Int)) N2300 => L19_5 r_0_19 partition_19 service_19 K s.1 s.2 N2300) s) (Lab.m (v1994, 0) [(200001, some 200001)] h) (fun _ h => h) ?_
    rintro ⟨v2288, v2289⟩ N2300 h
    have h : L19_5 r_0_19 partition_19 service_19 K v2288 v2289 N2300 := h
    unfold L19_5 at h
    refine AW.sregL [(0, none)] (by kernel_rfl) ?_
    refine l_ds 51 (.one (.d (.bool (decide (v2289 < (r_0_19.removed.length : Int)))))) ?_
    refine l_nil ?_
    refine AW.seq ?_
    refine AW.cond' (by kernel_rfl) h (fun h => ?_) (fun h => ?_)
    · refine AW.skip ?_
      refine q_fall ?_
      refine AW.seqL (S := Int) (fun s => (fun (v2307 : Int) => [(1, .one (.d (.int .i64 partition_19))), (2, .one (.d (.str service_19))), (3, .one (.ref 200001 0 0 0)), (8, .one (.d (.int .i64 v2307))), (9, .one (.d (.int .i64 0))), (48, .one (.d (.sl (List.map TRemoved.enc r_0_19.removed)))), (49, .one (.d (.int .i64 (r_0_19.removed.length : Int)))), (50, .one (.d (.int .i64 v2289)))]) s) (fun s => (fun (v2307 : Int) => [(200001, .expl true 50 4 [[.d (.sl (List.map TTrace.enc r_0_19.traces)), .d (.sl (List.map TExchange.enc r_0_19.exchanges)), .d (.sl (List.map TRemoved.enc r_0_19.removed)), .d (.sl (List.map TLate.enc r_0_19.late))]])]) s) (fun s : Int => J19_6 N2300 v2289 s) ?_ ?_
      · refine AW.blk ?_
        refine AW.sregL [(0, none), (1, none), (2, none), (3, none)] (by kernel_rfl) ?_
        obtain ⟨h875, x2309, h876, h⟩ := h
        refine l_spec (some 52) (.iad 4 (.t 48) (.t 50)) (.one (.d (.ptr [.int .i64 x2309.partition, .str x2309.service, .int .i64 x2309.spans, .int .i64 x2309.errors])), []) (by kernel_rfl) (detA_none (d_iad_sl (enc := TRemoved.enc) (k := .i64) r_0_19.removed x2309 (by kernel_rfl) (by kernel_rfl) h875 h876 rfl)) ?_
        refine l_ds 53 (.agg [.d (.int .i64 x2309.partition), .d (.str x2309.service), .d (.int .i64 x2309.spans), .d (.int .i64 x2309.errors)]) ?_
        refine l_det (some 15) (.one (.ref 15 1 0 0), [(15, 1, .row true 60 4 [[.d (.int .i64 0), .d (.str (⟨#[]⟩ : ByteArray)), .d (.int .i64 0), .d (.int .i64 0)]])]) (by kernel_rfl) ?_
        refine l_det none (.tup [], [(15, 1, .row true 60 4 [[.d (.int .i64 x2309.partition), .d (.str x2309.service), .d (.int .i64 x2309.spans), .d (.int .i64 x2309.errors)]])]) (by kernel_rfl) ?_
        refine l_nil ?_
        refine AW.seqL (S := Bool) (fun s => (fun (v2310 : Bool) => [(1, .one (.d (.int .i64 partition_19))), (2, .one (.d (.str service_19))), (3, .one (.ref 200001 0 0 0)), (8, .one (.d (.int .i64 v2288))), (9, .one (.d (.int .i64 0))), (15, .one (.ref 200002 0 0 0)), (48, .one (.d (.sl (List.map TRemoved.enc r_0_19.removed)))), (49, .one (.d (.int .i64 (r_0_19.removed.length : Int)))), (50, .one (.d (.int .i64 v2289))), (63, .one (.d (.bool v2310)))]) s) (fun s => (fun (v2310 : Bool) => [(200001, .expl true 50 4 [[.d (.sl (List.map TTrace.enc r_0_19.traces)), .d (.sl (List.map TExchange.enc r_0_19.exchanges)), .d (.sl (List.map TRemoved.enc r_0_19.removed)), .d (.sl (List.map TLate.enc r_0_19.late))]]), (200002, .expl true 60 4 [[.d (.int .i64 x2309.partition), .d (.str x2309.service), .d (.int .i64 x2309.spans), .d (.int .i64 x2309.errors)]])]) s) (fun s : Bool => J19_7 N2300 v2289 v2288 x2309 s) ?_ ?_
        · refine AW.regL [(0, none), (1, none), (2, none), (3, none), (4, none), (5, none), (6, none), (7, none), (8, none), (9, none)] (by kernel_rfl) ?_
          refine l_ds 54 (.one (.ref 15 1 0 0)) ?_
          refine l_ds 55 (.one (.d (.int .i64 x2309.partition))) ?_
          refine l_ds 56 (.one (.d (.int .i64 partition_19))) ?_
          refine l_ds 57 (.one (.d (.bool (decide (x2309.partition = partition_19))))) ?_
          refine l_ds 58 (.one (.d (.bool (decide (x2309.partition = partition_19))))) ?_
          refine l_split (s := 58) (by kernel_rfl) h (fun h => ?_) (fun h => ?_)
          · refine l_ds 59 (.one (.ref 15 1 0 1)) ?_
            refine l_ds 60 (.one (.d (.str x2309.service))) ?_
            refine l_ds 61 (.one (.d (.str service_19))) ?_
            refine l_ds 62 (.one (.d (.bool (decide (x2309.service = service_19))))) ?_
            refine l_ds 63 (.one (.d (.bool (decide (x2309.service = service_19))))) ?_
            refine l_nil ?_
            refine q_fall ?_
            exact Lab.m (decide (x2309.service = service_19)) [(200001, some 200001), (200002, some 15)] h
          · refine l_ds 59 (.tup []) ?_
            refine l_ds 60 (.tup []) ?_
            refine l_ds 61 (.tup []) ?_
            refine l_ds 62 (.tup []) ?_
            refine l_ds 63 (.one (.d (.bool false))) ?_
            refine l_nil ?_
            refine q_fall ?_
            exact Lab.m false [(200001, some 200001), (200002, some 15)] h
        · rintro v2310 h
          have h : J19_7 N2300 v2289 v2288 x2309 v2310 := h
          unfold J19_7 at h
          refine AW.cond' (by kernel_rfl) h (fun h => ?_) (fun h => ?_)
          · refine AW.regL [(0, none), (1, none), (2, none), (3, none), (4, none)] (by kernel_rfl) ?_
            refine l_ds 64 (.one (.d (.int .i64 v2288))) ?_
            refine l_ds 65 (.one (.ref 200002 0 0 2)) ?_
            refine l_ds 66 (.one (.d (.int .i64 x2309.spans))) ?_
            refine l_ds 67 (.one (.d (.int .i64 (w64 (v2288 + x2309.spans))))) ?_
            refine l_ds 8 (.one (.d (.int .i64 (w64 (v2288 + x2309.spans))))) ?_
            refine l_nil ?_
            refine q_bfall ?_
            refine q_fall ?_
            exact Lab.m (w64 (v2288 + x2309.spans)) [(200001, some 200001)] h
          · refine AW.skip ?_
            refine q_bfall ?_
            refine q_fall ?_
            exact Lab.m v2288 [(200001, some 200001)] h
      · rintro v2307 h
        have h : J19_6 N2300 v2289 v2307 := h
        unfold J19_6 at h
        refine AW.regL [(0, none), (1, none)] (by kernel_rfl) ?_
        refine l_ds 68 (.one (.d (.int .i64 (w64 (v2289 + 1))))) ?_
        refine l_ds 50 (.one (.d (.int .i64 (w64 (v2289 + 1))))) ?_
        refine l_nil ?_
        refine q_fall ?_
        exact Lab.m (v2307, (w64 (v2289 + 1))) [(200001, some 200001)] h
    · refine AW.exit ?_
      refine q_exit ?_
      refine q_exit ?_
      refine q_bhere ?_
      refine q_fall ?_
      refine AW.seq ?_
      refine AW.sregL [(0, none), (1, none), (2, none), (3, none)] (by kernel_rfl) ?_
      refine l_ds 69 (.one (.ref 200001 0 0 3)) ?_
      refine l_ds 70 (.one (.d (.sl (List.map TLate.enc r_0_19.late)))) ?_
      refine l_spec (some 71) (.lens (.t 70)) (.one (.d (.int .i64 (r_0_19.late.length : Int))), []) (by kernel_rfl) (detA_none (d_lens_sl (enc := TLate.enc) r_0_19.late (by kernel_rfl))) ?_
      refine l_ds 72 (.one (.d (.int .i64 0))) ?_
      refine l_nil ?_
      refine AW.blk ?_
      refine AW.loopL (S := (Int × Int)) (fun s => (fun (v2342 : Int) (v2343 : Int) => [(1, .one (.d (.int .i64 partition_19))), (8, .one (.d (.int .i64 v2288))), (9, .one (.d (.int .i64 v2342))), (70, .one (.d (.sl (List.map TLate.enc r_0_19.late)))), (71, .one (.d (.int .i64 (r_0_19.late.length : Int)))), (72, .one (.d (.int .i64 v2343)))]) s.1 s.2) (fun s => (fun (v2342 : Int) (v2343 : Int) => []) s.1 s.2) (fun (s : (Int × Int)) N2351 => L19_8 r_0_19 partition_19 K v2288 s.1 s.2 N2351) (N := fun s => LoopW (fun (s : (Int × Int)) N2351 => L19_8 r_0_19 partition_19 K v2288 s.1 s.2 N2351) s) (Lab.m (0, 0) [] h) (fun _ h => h) ?_
      rintro ⟨v2342, v2343⟩ N2351 h
      have h : L19_8 r_0_19 partition_19 K v2288 v2342 v2343 N2351 := h
      unfold L19_8 at h
      refine AW.sregL [(0, none)] (by kernel_rfl) ?_
      refine l_ds 73 (.one (.d (.bool (decide (v2343 < (r_0_19.late.length : Int)))))) ?_
      refine l_nil ?_
      refine AW.seq ?_
      refine AW.cond' (by kernel_rfl) h (fun h => ?_) (fun h => ?_)
      · refine AW.skip ?_
        refine q_fall ?_
        refine AW.seqL (S := Int) (fun s => (fun (v2356 : Int) => [(1, .one (.d (.int .i64 partition_19))), (8, .one (.d (.int .i64 v2288))), (9, .one (.d (.int .i64 v2356))), (70, .one (.d (.sl (List.map TLate.enc r_0_19.late)))), (71, .one (.d (.int .i64 (r_0_19.late.length : Int)))), (72, .one (.d (.int .i64 v2343)))]) s) (fun s => (fun (v2356 : Int) => []) s) (fun s : Int => J19_9 N2351 v2343 s) ?_ ?_
        · refine AW.blk ?_
          refine AW.sregL [(0, none), (1, none), (2, none), (3, none)] (by kernel_rfl) ?_
          obtain ⟨h947, x2358, h948, h⟩ := h
          refine l_spec (some 74) (.iad 2 (.t 70) (.t 72)) (.one (.d (.ptr [.int .i64 x2358.partition, .int .i64 x2358.spans])), []) (by kernel_rfl) (detA_none (d_iad_sl (enc := TLate.enc) (k := .i64) r_0_19.late x2358 (by kernel_rfl) (by kernel_rfl) h947 h948 rfl)) ?_
          refine l_ds 75 (.agg [.d (.int .i64 x2358.partition), .d (.int .i64 x2358.spans)]) ?_
          refine l_det (some 17) (.one (.ref 17 1 0 0), [(17, 1, .row true 62 2 [[.d (.int .i64 0), .d (.int .i64 0)]])]) (by kernel_rfl) ?_
          refine l_det none (.tup [], [(17, 1, .row true 62 2 [[.d (.int .i64 x2358.partition), .d (.int .i64 x2358.spans)]])]) (by kernel_rfl) ?_
          refine l_nil ?_
          refine AW.sregL [(0, none), (1, none), (2, none), (3, none)] (by kernel_rfl) ?_
          refine l_ds 76 (.one (.ref 17 1 0 0)) ?_
          refine l_ds 77 (.one (.d (.int .i64 x2358.partition))) ?_
          refine l_ds 78 (.one (.d (.int .i64 partition_19))) ?_
          refine l_ds 79 (.one (.d (.bool (decide (x2358.partition = partition_19))))) ?_
          refine l_nil ?_
          refine AW.cond' (by kernel_rfl) h (fun h => ?_) (fun h => ?_)
          · refine AW.regL [(0, none), (1, none), (2, none), (3, none), (4, none)] (by kernel_rfl) ?_
            refine l_ds 80 (.one (.d (.int .i64 v2342))) ?_
            refine l_ds 81 (.one (.ref 17 1 0 1)) ?_
            refine l_ds 82 (.one (.d (.int .i64 x2358.spans))) ?_
            refine l_ds 83 (.one (.d (.int .i64 (w64 (v2342 + x2358.spans))))) ?_
            refine l_ds 9 (.one (.d (.int .i64 (w64 (v2342 + x2358.spans))))) ?_
            refine l_nil ?_
            refine q_bfall ?_
            refine q_fall ?_
            exact Lab.m (w64 (v2342 + x2358.spans)) [] h
          · refine AW.skip ?_
            refine q_bfall ?_
            refine q_fall ?_
            exact Lab.m v2342 [] h
        · rintro v2356 h
          have h : J19_9 N2351 v2343 v2356 := h
          unfold J19_9 at h
          refine AW.regL [(0, none), (1, none)] (by kernel_rfl) ?_
          refine l_ds 84 (.one (.d (.int .i64 (w64 (v2343 + 1))))) ?_
          refine l_ds 72 (.one (.d (.int .i64 (w64 (v2343 + 1))))) ?_
          refine l_nil ?_
          refine q_fall ?_
          exact Lab.m (v2356, (w64 (v2343 + 1))) [] h
      · refine AW.exit ?_
        refine q_exit ?_
        refine q_exit ?_
        refine q_bhere ?_
        refine q_fall ?_
        refine AW.sregL [(0, none), (1, none), (2, none), (3, none), (4, none), (5, none), (6, none), (7, none), (8, none)] (by kernel_rfl) ?_
        refine l_ds 85 (.one (.d (.int .i64 v2288))) ?_
        refine l_ds 86 (.one (.d (.int .i64 v2342))) ?_
        refine l_ds 87 (.one (.d (.int .i64 (w64 (v2288 - v2342))))) ?_
        refine l_ds 88 (.one (.d (.int .i64 (if (w64 (v2288 - v2342)) > 0 then (w64 (v2288 - v2342)) else 0)))) ?_
        refine l_ds 89 (.one (.d (.int .i64 v2288))) ?_
        refine l_ds 90 (.one (.d (.int .i64 v2342))) ?_
        refine l_ds 91 (.one (.d (.int .i64 (w64 (v2288 + v2342))))) ?_
        refine l_ds 6 (.one (.d (.int .i64 (if (w64 (v2288 - v2342)) > 0 then (w64 (v2288 - v2342)) else 0)))) ?_
        refine l_ds 7 (.one (.d (.int .i64 (w64 (v2288 + v2342))))) ?_
        refine l_nil ?_
        refine AW.ret ?_
        exact q_end [.one (.d (.int .i64 (if (w64 (v2288 - v2342)) > 0 then (w64 (v2288 - v2342)) else 0))), .one (.d (.int .i64 (w64 (v2288 + v2342))))] [false, false] [.one (.d (.int .i64 (if (w64 (v2288 - v2342)) > 0 then (w64 (v2288 - v2342)) else 0))), .one (.d (.int .i64 (w64 (v2288 + v2342))))] [] [] (by kernel_rfl) ⟨by kernel_rfl, by kernel_rfl⟩ (by kernel_rfl) (by kernel_rfl) (by kernel_rfl) (by kernel_rfl) (Eq.mp (by kernel_rfl) (hK ((if (w64 (v2288 - v2342)) > 0 then (w64 (v2288 - v2342)) else 0), (w64 (v2288 + v2342))) h)) (.inr rfl)
def r12_0 : List AR := [⟨some 0, .mov (.c (.bool false)), [], none⟩]
def r12_1 : List AR := [⟨some 10, .call 36 [], [], none⟩,
  ⟨some 11, .call 14 [.t 10, .c (.int .i64 1)], [0, 0], none⟩,
  ⟨some 9, .mov (.t 11), [1], none⟩,
  ⟨some 12, .ext (.t 9) 0, [2], none⟩,
  ⟨some 13, .ext (.t 9) 1, [2], none⟩,
  ⟨some 1, .mov (.t 12), [3, 1, 0, 1, 2, 3], none⟩,
  ⟨some 2, .mov (.t 13), [4, 5, 0, 1, 2, 3, 4, 5], none⟩]
def r12_2 : List AR := [⟨some 15, .call 36 [], [], none⟩,
  ⟨some 16, .call 14 [.t 15, .c (.int .i64 2)], [0, 0], none⟩,
  ⟨some 14, .mov (.t 16), [1], none⟩,
  ⟨some 17, .ext (.t 14) 0, [2], none⟩,
  ⟨some 18, .ext (.t 14) 1, [2], none⟩,
  ⟨some 3, .mov (.t 17), [3, 1, 0, 1, 2, 3], none⟩,
  ⟨some 4, .mov (.t 18), [4, 5, 0, 1, 2, 3, 4, 5], none⟩]
def r12_3 : List AR := [⟨some 19, .bld [.int .i64 0, .int .i64 0, .nils] [(0, 1, .c (.int .i64 3)), (1, 1, .c (.int .i64 1))], [], none⟩,
  ⟨some 5, .alloc 53 true [.int .i64 0, .int .i64 0, .nils], [], none⟩,
  ⟨none, .st 3 (.t 5) (.t 19), [1, 0, 0, 1], none⟩]
def r12_4 : List AR := [⟨some 6, .mov (.c (.int .i64 1)), [], none⟩]
def r12_5 : List AR := [⟨some 20, .mov (.t 6), [], none⟩,
  ⟨some 21, .bin .leq (.t 20) (.c (.int .i64 4)), [0], none⟩]
def r12_6 : List AR := [⟨some 24, .fad (.t 5) 2, [], none⟩,
  ⟨some 25, .ld false 1 (.t 24), [0], none⟩,
  ⟨some 26, .mov (.t 6), [], none⟩,
  ⟨some 27, .bsl 9 1 4 [.str ⟨#[]⟩] [(0, .c (.str ⟨#[115]⟩)), (1, .c (.str ⟨#[115]⟩)), (2, .c (.str ⟨#[116]⟩)), (3, .c (.str ⟨#[115]⟩))], [], none⟩,
  ⟨some 28, .mov (.t 6), [], none⟩,
  ⟨some 29, .bin .sub (.t 28) (.c (.int .i64 1)), [4], none⟩,
  ⟨some 30, .iad 1 (.t 27) (.t 29), [3, 5], none⟩,
  ⟨some 31, .ld false 1 (.t 30), [6], none⟩,
  ⟨some 32, .bld [.int .i64 0, .int .i64 0, .int .i64 0, .int .i64 0, .int .i64 0, .int .i64 0, .str ⟨#[]⟩, .str ⟨#[]⟩, .str ⟨#[]⟩, .int .i64 0, .int .i64 0, .bool false, .nils, .nils] [(0, 1, .c (.int .i64 3)), (1, 1, .t 26), (4, 1, .c (.int .i64 1)), (5, 1, .c (.int .i64 3)), (6, 1, .t 31), (8, 1, .c (.str ⟨#[111]⟩))], [2, 7], none⟩,
  ⟨some 33, .bsl 58 14 1 [.int .i64 0, .int .i64 0, .int .i64 0, .int .i64 0, .int .i64 0, .int .i64 0, .str ⟨#[]⟩, .str ⟨#[]⟩, .str ⟨#[]⟩, .int .i64 0, .int .i64 0, .bool false, .nils, .nils] [(0, .t 32)], [8], none⟩,
  ⟨some 34, .app 58 14 168 [.int .i64 0, .int .i64 0, .int .i64 0, .int .i64 0, .int .i64 0, .int .i64 0, .str ⟨#[]⟩, .str ⟨#[]⟩, .str ⟨#[]⟩, .int .i64 0, .int .i64 0, .bool false, .nils, .nils] (.t 25) (.t 33), [1, 9], none⟩,
  ⟨some 35, .fad (.t 5) 2, [0, 1, 2, 3, 4, 5, 6, 7, 8, 9, 10], none⟩,
  ⟨none, .st 1 (.t 35) (.t 34), [11, 10, 10, 0, 1, 2, 3, 4, 5, 6, 7, 8, 9, 10], none⟩]
def r12_7 : List AR := [⟨some 22, .mov (.t 6), [], none⟩,
  ⟨some 23, .bin .add (.t 22) (.c (.int .i64 1)), [0], none⟩,
  ⟨some 6, .mov (.t 23), [1, 0, 1], none⟩]
def r12_8 : List AR := [⟨some 37, .ld true 3 (.t 5), [], none⟩,
  ⟨some 38, .bsl 53 3 1 [.int .i64 0, .int .i64 0, .nils] [(0, .t 37)], [0], none⟩,
  ⟨some 39, .bld [.int .i64 0, .str ⟨#[]⟩, .int .i64 0, .int .i64 0] [(1, 1, .c (.str ⟨#[115]⟩)), (2, 1, .c (.int .i64 10))], [], none⟩,
  ⟨some 40, .bsl 60 4 1 [.int .i64 0, .str ⟨#[]⟩, .int .i64 0, .int .i64 0] [(0, .t 39)], [2], none⟩,
  ⟨some 41, .bld [.int .i64 0, .int .i64 0] [(1, 1, .c (.int .i64 2))], [], none⟩,
  ⟨some 42, .bsl 62 2 1 [.int .i64 0, .int .i64 0] [(0, .t 41)], [4], none⟩,
  ⟨some 43, .bld [.nils, .nils, .nils, .nils] [(0, 1, .t 38), (2, 1, .t 40), (3, 1, .t 42)], [1, 3, 5], none⟩,
  ⟨some 44, .call 19 [.t 43, .c (.int .i64 0), .c (.str ⟨#[115]⟩)], [6], none⟩,
  ⟨some 36, .mov (.t 44), [7], none⟩,
  ⟨some 45, .ext (.t 36) 0, [8], none⟩,
  ⟨some 46, .ext (.t 36) 1, [8], none⟩,
  ⟨some 7, .mov (.t 45), [9, 7, 0, 1, 2, 3, 4, 5, 6, 7, 8, 9], none⟩,
  ⟨some 8, .mov (.t 46), [10, 11, 0, 1, 2, 3, 4, 5, 6, 7, 8, 9, 10, 11], none⟩]
def r12_9 : List AR := [⟨some 47, .mov (.t 2), [], none⟩,
  ⟨some 48, .bin .eql (.t 47) (.c (.int .i64 0)), [0], none⟩,
  ⟨some 49, .mov (.t 48), [1], none⟩,
  ⟨some 50, .mov (.t 4), [2], some (49, true)⟩,
  ⟨some 51, .bin .eql (.t 50) (.c (.int .i64 0)), [3, 2], some (49, true)⟩,
  ⟨some 52, .pick (.t 49) (.t 51) (.c (.bool false)), [2, 4], none⟩,
  ⟨some 53, .mov (.t 52), [5, 2], none⟩,
  ⟨some 54, .mov (.t 1), [6], some (53, true)⟩,
  ⟨some 55, .lens (.t 54), [7, 6], some (53, true)⟩,
  ⟨some 56, .bin .eql (.t 55) (.c (.int .i64 1)), [8, 6], some (53, true)⟩,
  ⟨some 57, .pick (.t 53) (.t 56) (.c (.bool false)), [6, 9], none⟩,
  ⟨some 58, .mov (.t 57), [10, 6], none⟩,
  ⟨some 59, .mov (.t 1), [11], some (58, true)⟩,
  ⟨some 60, .iad 7 (.t 59) (.c (.int .i64 0)), [12, 11], some (58, true)⟩,
  ⟨some 61, .fad (.t 60) 3, [13, 11], some (58, true)⟩,
  ⟨some 62, .ld true 4 (.t 61), [14, 11], some (58, true)⟩,
  ⟨some 63, .bld [.int .i64 0, .int .i64 0, .int .i64 0, .int .i64 0] [(0, 1, .c (.int .i64 8)), (1, 1, .c (.int .i64 4)), (2, 1, .c (.int .i64 60)), (3, 1, .c (.int .i64 4))], [11], some (58, true)⟩,
  ⟨some 64, .eqs false [.i, .i, .i, .i] (.t 62) (.t 63), [15, 16, 11], some (58, true)⟩,
  ⟨some 65, .pick (.t 58) (.t 64) (.c (.bool false)), [11, 17], none⟩,
  ⟨some 66, .mov (.t 65), [18, 11], none⟩,
  ⟨some 67, .mov (.t 3), [19], some (66, true)⟩,
  ⟨some 68, .lens (.t 67), [20, 19], some (66, true)⟩,
  ⟨some 69, .bin .eql (.t 68) (.c (.int .i64 2)), [21, 19], some (66, true)⟩,
  ⟨some 70, .pick (.t 66) (.t 69) (.c (.bool false)), [19, 22], none⟩,
  ⟨some 71, .mov (.t 70), [23, 19], none⟩,
  ⟨some 72, .mov (.t 3), [24], some (71, true)⟩,
  ⟨some 73, .iad 7 (.t 72) (.c (.int .i64 1)), [25, 24], some (71, true)⟩,
  ⟨some 74, .ld true 7 (.t 73), [26, 24], some (71, true)⟩,
  ⟨some 75, .bld [.str ⟨#[]⟩, .str ⟨#[]⟩, .str ⟨#[]⟩] [(0, 1, .c (.str ⟨#[97, 112, 105]⟩)), (1, 1, .c (.str ⟨#[118, 50]⟩))], [24], some (71, true)⟩,
  ⟨some 76, .bld [.int .i64 0, .int .i64 0, .int .i64 0, .int .i64 0] [(0, 1, .c (.int .i64 4)), (1, 1, .c (.int .i64 4)), (2, 1, .c (.int .i64 20)), (3, 1, .c (.int .i64 4))], [24], some (71, true)⟩,
  ⟨some 77, .bld [.str ⟨#[]⟩, .str ⟨#[]⟩, .str ⟨#[]⟩, .int .i64 0, .int .i64 0, .int .i64 0, .int .i64 0] [(0, 3, .t 75), (3, 4, .t 76)], [28, 29, 24], some (71, true)⟩,
  ⟨some 78, .eqs false [.s, .s, .s, .i, .i, .i, .i] (.t 74) (.t 77), [27, 30, 24], some (71, true)⟩,
  ⟨some 79, .pick (.t 71) (.t 78) (.c (.bool false)), [24, 31], none⟩,
  ⟨some 80, .mov (.t 79), [32, 24], none⟩,
  ⟨some 81, .mov (.t 7), [33], some (80, true)⟩,
  ⟨some 82, .bin .eql (.t 81) (.c (.int .i64 11)), [34, 33], some (80, true)⟩,
  ⟨some 83, .pick (.t 80) (.t 82) (.c (.bool false)), [33, 35], none⟩,
  ⟨some 84, .mov (.t 83), [36, 33], none⟩,
  ⟨some 85, .mov (.t 8), [37], some (84, true)⟩,
  ⟨some 86, .bin .eql (.t 85) (.c (.int .i64 15)), [38, 37], some (84, true)⟩,
  ⟨some 87, .pick (.t 84) (.t 86) (.c (.bool false)), [37, 39], none⟩,
  ⟨some 0, .mov (.t 87), [40, 37, 0, 1, 2, 3, 4, 5, 6, 7, 8, 9, 10, 11, 12, 13, 14, 15, 16, 17, 18, 19, 20, 21, 22, 23, 24, 25, 26, 27, 28, 29, 30, 31, 32, 33, 34, 35, 36, 37, 38, 39, 40], none⟩]
def c12 : ACode := .seq (.reg r12_0 false) (.seq (.reg r12_1 false) (.seq (.reg r12_2 false) (.seq (.reg r12_3 false) (.seq (.seq (.reg r12_4 false) (.blk 0 (.loop (.seq (.seq (.reg r12_5 false) (.cond (.t 21) (.skip) (.exit 0))) (.seq (.blk 1 (.reg r12_6 true)) (.reg r12_7 false)))))) (.seq (.reg r12_8 false) (.seq (.reg r12_9 false) (.ret)))))))
theorem body12 : Try.f12.body.map (comp Try.prog 88) = some c12 := by kernel_rfl
theorem res12 : allSome (Try.f12.results.toList.map (compRes Try.prog)) = some [.s 0] := by kernel_rfl
theorem cok12 {S : FSpec} (h : ∀ args K, S args K → args.all argOk = true ∧ args.length ≤ 88 ∧ AW Try.prog 88 (some ownP) c12 (initS args) (retPost [.s 0] args K)) : COK Try.prog 12 S := of_body Try.func12 Try.ntmps12 body12 res12 h

def J12_2 (K : Bool → Prop) (v2365 : Bool) : Prop :=
  K v2365

def L12_1 (r1474 : ((List TLine) × Int)) (r1478 : ((List TLine) × Int)) (K : Bool → Prop) (v1486 : List TSpan) (v1487 : Int) (N1490 : ((List TSpan) × Int) → Prop) : Prop :=
  Cond (decide (v1487 ≤ 4)) (Idx [(⟨#[115]⟩ : ByteArray), (⟨#[115]⟩ : ByteArray), (⟨#[116]⟩ : ByteArray), (⟨#[115]⟩ : ByteArray)] (w64 (v1487 - 1)) fun x1492 => Fits ((v1486 ++ [(TSpan.mk 3 v1487 0 0 1 3 x1492 (⟨#[]⟩ : ByteArray) (⟨#[111]⟩ : ByteArray) 0 0 false [] [])]).length * 168) (N1490 ((v1486 ++ [(TSpan.mk 3 v1487 0 0 1 3 x1492 (⟨#[]⟩ : ByteArray) (⟨#[111]⟩ : ByteArray) 0 0 false [] [])]), (w64 (v1487 + 1))))) (W19 (TRetained.mk [(TTrace.mk 3 1 v1486)] [] [(TRemoved.mk 0 (⟨#[115]⟩ : ByteArray) 10 0)] [(TLate.mk 0 2)]) 0 (⟨#[115]⟩ : ByteArray) fun r2360 => Cond (decide (r1474.2 = 0)) (Cond (decide (r1478.2 = 0)) (Cond (decide ((r1474.1.length : Int) = 1)) (Idx r1474.1 0 fun x2366 => Cond (decide (x2366.total.spans = 8) && (decide (x2366.total.errors = 4) && (decide (x2366.total.duration = 60) && (decide (x2366.total.traces = 4) && true)))) (Cond (decide ((r1478.1.length : Int) = 2)) (Idx r1478.1 1 fun x2367 => Cond (decide (x2367.group.service = (⟨#[97, 112, 105]⟩ : ByteArray)) && (decide (x2367.group.version = (⟨#[118, 50]⟩ : ByteArray)) && (decide (x2367.group.operation = (⟨#[]⟩ : ByteArray)) && (decide (x2367.total.spans = 4) && (decide (x2367.total.errors = 4) && (decide (x2367.total.duration = 20) && (decide (x2367.total.traces = 4) && true))))))) (Cond (decide (r2360.1 = 11)) (J12_2 K (decide (r2360.2 = 15))) (J12_2 K false)) (J12_2 K false)) (J12_2 K false)) (J12_2 K false)) (J12_2 K false)) (J12_2 K false)) (J12_2 K false))

/-- sleuth/sleuthlaw25.known -/
def W12 (K : Bool → Prop) : Prop :=
  W36  fun r1473 => W14 r1473 1 fun r1474 => W36  fun r1477 => W14 r1477 2 fun r1478 => LoopW (fun (s : ((List TSpan) × Int)) N1490 => L12_1 r1474 r1478 K s.1 s.2 N1490) ([], 1)

def S12 : FSpec := fun args K => ∃ (Kr : Bool → Prop), args = [] ∧ W12  Kr ∧ ∀ r, Kr r → K (.one (.d (.bool r))) []

theorem en12 : enters Try.prog 12 = true := by unfold enters; rw [Try.func12]; rfl
theorem cl12 {Kr : Bool → Prop} (h : W12  Kr) : S12 [] (fun rv rows => ∃ r, rv = (.one (.d (.bool r))) ∧ rows = [] ∧ Kr r) := ⟨Kr, rfl, h, fun r hr => ⟨r, rfl, rfl, hr⟩⟩

theorem ok12 : COK Try.prog 12 S12 := by
  refine cok12 fun args K0 hS => ?_
  obtain ⟨K, rfl, h, hK⟩ := hS
  refine ⟨by kernel_rfl, by simp, ?_⟩
  unfold W12 at h
  refine AW.sregL [(0, none)] (by kernel_rfl) ?_
  refine l_ds 0 (.one (.d (.bool false))) ?_
  refine l_nil ?_
  refine AW.sregL [(0, none), (1, none), (2, none), (3, none), (4, none), (5, none), (6, none)] (by kernel_rfl) ?_
  refine l_call ok36 en36 (some 10) [] [] [] [] (by kernel_rfl) ⟨by kernel_rfl, by kernel_rfl⟩ (by kernel_rfl) (by kernel_rfl) (by kernel_rfl) (cl36  h) ?_
  rintro hR _ _ ⟨r1473, rfl, rfl, h⟩
  refine ⟨false, (.one (.d (.sl (List.map TTrace.enc r1473))), []), (fun hz => (by cases hz)), (ret_R hR (by kernel_rfl)), ?_⟩
  refine l_call ok14 en14 (some 11) [.one (.d (.sl (List.map TTrace.enc r1473))), .one (.d (.int .i64 1))] [false, false] [.one (.d (.sl (List.map TTrace.enc r1473))), .one (.d (.int .i64 1))] [] (by kernel_rfl) ⟨by kernel_rfl, by kernel_rfl⟩ (by kernel_rfl) (by kernel_rfl) (by kernel_rfl) (cl14 r1473 1 h) ?_
  rintro hR _ _ ⟨r1474, rfl, rfl, h⟩
  refine ⟨false, (.tup [.one (.view 11 1 0 ((List.map TLine.enc r1474.1).length)), .one (.d (.int .i64 r1474.2))], [(11, 1, .row true 41 7 (dmm (List.map TLine.enc r1474.1)))]), (fun hz => (by cases hz)), (ret_R hR (by kernel_rfl)), ?_⟩
  refine l_ds 9 (.tup [.one (.view 11 1 0 ((List.map TLine.enc r1474.1).length)), .one (.d (.int .i64 r1474.2))]) ?_
  refine l_ds 12 (.one (.view 11 1 0 ((List.map TLine.enc r1474.1).length))) ?_
  refine l_ds 13 (.one (.d (.int .i64 r1474.2))) ?_
  refine l_ds 1 (.one (.view 11 1 0 ((List.map TLine.enc r1474.1).length))) ?_
  refine l_ds 2 (.one (.d (.int .i64 r1474.2))) ?_
  refine l_nil ?_
  refine AW.sregL [(0, none), (1, none), (2, none), (3, none), (4, none), (5, none), (6, none)] (by kernel_rfl) ?_
  refine l_call ok36 en36 (some 15) [] [] [] [] (by kernel_rfl) ⟨by kernel_rfl, by kernel_rfl⟩ (by kernel_rfl) (by kernel_rfl) (by kernel_rfl) (cl36  h) ?_
  rintro hR _ _ ⟨r1477, rfl, rfl, h⟩
  refine ⟨false, (.one (.d (.sl (List.map TTrace.enc r1477))), []), (fun hz => (by cases hz)), (ret_R hR (by kernel_rfl)), ?_⟩
  refine l_call ok14 en14 (some 16) [.one (.d (.sl (List.map TTrace.enc r1477))), .one (.d (.int .i64 2))] [false, false] [.one (.d (.sl (List.map TTrace.enc r1477))), .one (.d (.int .i64 2))] [] (by kernel_rfl) ⟨by kernel_rfl, by kernel_rfl⟩ (by kernel_rfl) (by kernel_rfl) (by kernel_rfl) (cl14 r1477 2 h) ?_
  rintro hR _ _ ⟨r1478, rfl, rfl, h⟩
  refine ⟨false, (.tup [.one (.view 16 1 0 ((List.map TLine.enc r1478.1).length)), .one (.d (.int .i64 r1478.2))], [(16, 1, .row true 41 7 (dmm (List.map TLine.enc r1478.1)))]), (fun hz => (by cases hz)), (ret_R hR (by kernel_rfl)), ?_⟩
  refine l_ds 14 (.tup [.one (.view 16 1 0 ((List.map TLine.enc r1478.1).length)), .one (.d (.int .i64 r1478.2))]) ?_
  refine l_ds 17 (.one (.view 16 1 0 ((List.map TLine.enc r1478.1).length))) ?_
  refine l_ds 18 (.one (.d (.int .i64 r1478.2))) ?_
  refine l_ds 3 (.one (.view 16 1 0 ((List.map TLine.enc r1478.1).length))) ?_
  refine l_ds 4 (.one (.d (.int .i64 r1478.2))) ?_
  refine l_nil ?_
  refine AW.sregL [(0, none), (1, none), (2, none)] (by kernel_rfl) ?_
  refine l_ds 19 (.agg [.d (.int .i64 3), .d (.int .i64 1), .nils]) ?_
  refine l_det (some 5) (.one (.ref 5 1 0 0), [(5, 1, .row true 53 3 [[.d (.int .i64 0), .d (.int .i64 0), .nils]])]) (by kernel_rfl) ?_
  refine l_det none (.tup [], [(5, 1, .row true 53 3 [[.d (.int .i64 3), .d (.int .i64 1), .nils]])]) (by kernel_rfl) ?_
  refine l_nil ?_
  refine AW.seq ?_
  refine AW.sregL [(0, none)] (by kernel_rfl) ?_
  refine l_ds 6 (.one (.d (.int .i64 1))) ?_
  refine l_nil ?_
  refine AW.blk ?_
  refine AW.loopL (S := ((List TSpan) × Int)) (fun s => (fun (v1486 : List TSpan) (v1487 : Int) => [(1, .one (.view 200001 0 0 ((List.map TLine.enc r1474.1).length))), (2, .one (.d (.int .i64 r1474.2))), (3, .one (.view 200002 0 0 ((List.map TLine.enc r1478.1).length))), (4, .one (.d (.int .i64 r1478.2))), (5, .one (.ref 200003 0 0 0)), (6, .one (.d (.int .i64 v1487)))]) s.1 s.2) (fun s => (fun (v1486 : List TSpan) (v1487 : Int) => [(200001, .pure true 41 7 (List.map TLine.enc r1474.1)), (200002, .pure true 41 7 (List.map TLine.enc r1478.1)), (200003, .expl true 53 3 [[.d (.int .i64 3), .d (.int .i64 1), .view 200004 0 0 ((List.map TSpan.enc v1486).length)]]), (200004, .pure true 58 14 (List.map TSpan.enc v1486))]) s.1 s.2) (fun (s : ((List TSpan) × Int)) N1490 => L12_1 r1474 r1478 K s.1 s.2 N1490) (N := fun s => LoopW (fun (s : ((List TSpan) × Int)) N1490 => L12_1 r1474 r1478 K s.1 s.2 N1490) s) (Lab.m ([], 1) [(200001, some 11), (200002, some 16), (200003, some 5), (200004, none)] h) (fun _ h => h) ?_
  rintro ⟨v1486, v1487⟩ N1490 h
  have h : L12_1 r1474 r1478 K v1486 v1487 N1490 := h
  unfold L12_1 at h
  refine AW.seq ?_
  refine AW.sregL [(0, none), (1, none)] (by kernel_rfl) ?_
  refine l_ds 20 (.one (.d (.int .i64 v1487))) ?_
  refine l_ds 21 (.one (.d (.bool (decide (v1487 ≤ 4))))) ?_
  refine l_nil ?_
  refine AW.cond' (by kernel_rfl) h (fun h => ?_) (fun h => ?_)
  · refine AW.skip ?_
    refine q_fall ?_
    refine AW.seq ?_
    refine AW.blk ?_
    refine AW.regdL follows_mixed [[], [0], [], [], [], [4], [3, 4, 5], [3, 4, 5, 6], [2, 3, 4, 5, 6, 7], [2, 3, 4, 5, 6, 7, 8], [0, 1, 2, 3, 4, 5, 6, 7, 8, 9], [0, 1, 2, 3, 4, 5, 6, 7, 8, 9, 10], [0, 1, 2, 3, 4, 5, 6, 7, 8, 9, 10, 11]] [(0, none), (1, some [25, 1200003]), (2, none), (4, none), (5, none), (3, some [27]), (6, none), (7, none), (8, none), (9, some [33]), (10, none), (11, none), (12, none)] (by kernel_rfl) ?_
    refine l_ds 24 (.one (.ref 200003 0 0 2)) ?_
    refine l_ds 25 (.one (.view 200004 0 0 ((List.map TSpan.enc v1486).length))) ?_
    refine l_ds 26 (.one (.d (.int .i64 v1487))) ?_
    refine l_ds 28 (.one (.d (.int .i64 v1487))) ?_
    refine l_ds 29 (.one (.d (.int .i64 (w64 (v1487 - 1))))) ?_
    refine l_det (some 27) (.one (.view 27 1 0 4), [(27, 1, .row true 9 1 [[.d (.str (⟨#[115]⟩ : ByteArray))], [.d (.str (⟨#[115]⟩ : ByteArray))], [.d (.str (⟨#[116]⟩ : ByteArray))], [.d (.str (⟨#[115]⟩ : ByteArray))]])]) (by kernel_rfl) ?_
    obtain ⟨h34, x1492, h35, h⟩ := h
    refine l_spec (some 30) (.iad 1 (.t 27) (.t 29)) (.one (.ref 27 1 ((w64 (v1487 - 1)).toNat) 0), []) (by kernel_rfl) (detA_none (d_iad_v (enc := eStr) (k := .i64) (E := 9) (l := true) (ys := dmm (List.map eStr [(⟨#[115]⟩ : ByteArray), (⟨#[115]⟩ : ByteArray), (⟨#[116]⟩ : ByteArray), (⟨#[115]⟩ : ByteArray)])) [(⟨#[115]⟩ : ByteArray), (⟨#[115]⟩ : ByteArray), (⟨#[116]⟩ : ByteArray), (⟨#[115]⟩ : ByteArray)] x1492 (by kernel_rfl) (by kernel_rfl) (by kernel_rfl) (by kernel_rfl) h34 h35)) ?_
    refine l_spec (some 31) (.ld false 1 (.t 30)) (.one (.d (.str x1492)), []) (by kernel_rfl) (detA_none (d_ld_row (enc := eStr) (o := 27) (g := 1) (i := ((w64 (v1487 - 1)).toNat)) (off := 0) (E := 9) (sz := 1) (l := true) [(⟨#[115]⟩ : ByteArray), (⟨#[115]⟩ : ByteArray), (⟨#[116]⟩ : ByteArray), (⟨#[115]⟩ : ByteArray)] x1492 (by kernel_rfl) (by kernel_rfl) (by kernel_rfl) h35 (by kernel_rfl))) ?_
    refine l_ds 32 (.agg [.d (.int .i64 3), .d (.int .i64 v1487), .d (.int .i64 0), .d (.int .i64 0), .d (.int .i64 1), .d (.int .i64 3), .d (.str x1492), .d (.str (⟨#[]⟩ : ByteArray)), .d (.str (⟨#[111]⟩ : ByteArray)), .d (.int .i64 0), .d (.int .i64 0), .d (.bool false), .nils, .nils]) ?_
    refine l_det (some 33) (.one (.view 33 1 0 1), [(33, 1, .row true 58 14 [[.d (.int .i64 3), .d (.int .i64 v1487), .d (.int .i64 0), .d (.int .i64 0), .d (.int .i64 1), .d (.int .i64 3), .d (.str x1492), .d (.str (⟨#[]⟩ : ByteArray)), .d (.str (⟨#[111]⟩ : ByteArray)), .d (.int .i64 0), .d (.int .i64 0), .d (.bool false), .nils, .nils]])]) (by kernel_rfl) ?_
    obtain ⟨h36, h⟩ := h
    refine l_spec (some 34) (.app 58 14 168 [.int .i64 0, .int .i64 0, .int .i64 0, .int .i64 0, .int .i64 0, .int .i64 0, .str ⟨#[]⟩, .str ⟨#[]⟩, .str ⟨#[]⟩, .int .i64 0, .int .i64 0, .bool false, .nils, .nils] (.t 25) (.t 33)) (.one (.view 200004 1 0 ((List.map TSpan.enc (v1486 ++ [(TSpan.mk 3 v1487 0 0 1 3 x1492 (⟨#[]⟩ : ByteArray) (⟨#[111]⟩ : ByteArray) 0 0 false [] [])])).length)), [(200004, 1, .row true 58 14 (dmm (List.map TSpan.enc (v1486 ++ [(TSpan.mk 3 v1487 0 0 1 3 x1492 (⟨#[]⟩ : ByteArray) (⟨#[111]⟩ : ByteArray) 0 0 false [] [])]))))]) (by kernel_rfl) (detA_none (d_app_v (enc := TSpan.enc) (xc := .view 33 1 0 1) v1486 [(TSpan.mk 3 v1487 0 0 1 3 x1492 (⟨#[]⟩ : ByteArray) (⟨#[111]⟩ : ByteArray) 0 0 false [] [])] (by kernel_rfl) (by kernel_rfl) (by kernel_rfl) (by kernel_rfl) (by kernel_rfl) h36 (by kernel_rfl))) ?_
    refine l_ds 35 (.one (.ref 200003 0 0 2)) ?_
    refine l_det none (.tup [], [(200003, 0, .row true 53 3 [[.d (.int .i64 3), .d (.int .i64 1), .view 200004 1 0 ((List.map TSpan.enc (v1486 ++ [(TSpan.mk 3 v1487 0 0 1 3 x1492 (⟨#[]⟩ : ByteArray) (⟨#[111]⟩ : ByteArray) 0 0 false [] [])])).length)]])]) (by kernel_rfl) ?_
    refine l_nil ?_
    refine q_bfall ?_
    refine q_fall ?_
    refine AW.regL [(0, none), (1, none), (2, none)] (by kernel_rfl) ?_
    refine l_ds 22 (.one (.d (.int .i64 v1487))) ?_
    refine l_ds 23 (.one (.d (.int .i64 (w64 (v1487 + 1))))) ?_
    refine l_ds 6 (.one (.d (.int .i64 (w64 (v1487 + 1))))) ?_
    refine l_nil ?_
    refine q_fall ?_
    exact Lab.m ((v1486 ++ [(TSpan.mk 3 v1487 0 0 1 3 x1492 (⟨#[]⟩ : ByteArray) (⟨#[111]⟩ : ByteArray) 0 0 false [] [])]), (w64 (v1487 + 1))) [(200001, some 200001), (200002, some 200002), (200003, some 200003), (200004, some 200004)] h
  · refine AW.exit ?_
    refine q_exit ?_
    refine q_exit ?_
    refine q_bhere ?_
    refine q_fall ?_
    refine AW.sregL [(0, none), (1, none), (2, none), (3, none), (4, none), (5, none), (6, none), (7, none), (8, none), (9, none), (10, none), (11, none), (12, none)] (by kernel_rfl) ?_
    refine l_ds 37 (.agg [.d (.int .i64 3), .d (.int .i64 1), .view 200004 0 0 ((List.map TSpan.enc v1486).length)]) ?_
    refine l_det (some 38) (.one (.view 38 1 0 1), [(38, 1, .row true 53 3 [[.d (.int .i64 3), .d (.int .i64 1), .view 200004 0 0 ((List.map TSpan.enc v1486).length)]])]) (by kernel_rfl) ?_
    refine l_ds 39 (.agg [.d (.int .i64 0), .d (.str (⟨#[115]⟩ : ByteArray)), .d (.int .i64 10), .d (.int .i64 0)]) ?_
    refine l_det (some 40) (.one (.view 40 1 0 1), [(40, 1, .row true 60 4 [[.d (.int .i64 0), .d (.str (⟨#[115]⟩ : ByteArray)), .d (.int .i64 10), .d (.int .i64 0)]])]) (by kernel_rfl) ?_
    refine l_ds 41 (.agg [.d (.int .i64 0), .d (.int .i64 2)]) ?_
    refine l_det (some 42) (.one (.view 42 1 0 1), [(42, 1, .row true 62 2 [[.d (.int .i64 0), .d (.int .i64 2)]])]) (by kernel_rfl) ?_
    refine l_ds 43 (.agg [.view 38 1 0 1, .nils, .view 40 1 0 1, .view 42 1 0 1]) ?_
    refine l_call ok19 en19 (some 44) [.agg [.view 38 1 0 1, .nils, .view 40 1 0 1, .view 42 1 0 1], .one (.d (.int .i64 0)), .one (.d (.str (⟨#[115]⟩ : ByteArray)))] [false, false, false] [.agg (List.map RC.d [.sl [[.int .i64 3, .int .i64 1, .sl (List.map TSpan.enc v1486)]], .sl [], .sl [[.int .i64 0, .str (⟨#[115]⟩ : ByteArray), .int .i64 10, .int .i64 0]], .sl [[.int .i64 0, .int .i64 2]]]), .one (.d (.int .i64 0)), .one (.d (.str (⟨#[115]⟩ : ByteArray)))] [38, 200004, 40, 42] (by kernel_rfl) (ps_plain (pv_agg (pc_cons (pf_expl (xs := [[.d (.int .i64 3), .d (.int .i64 1), .view 200004 0 0 ((List.map TSpan.enc v1486).length)]]) (E := 53) (sz := 3) (l := true) (by kernel_rfl) (by kernel_rfl) (by kernel_rfl) rfl (pr_cons (pc_cons pf_d (pc_cons pf_d (pc_cons (pf_view (E := 58) (sz := 14) (l := true) (List.map TSpan.enc v1486) (by kernel_rfl) (by kernel_rfl) rfl) pc_nil))) pr_nil)) (pc_cons pf_nils (pc_cons (pk (.sl [[.int .i64 0, .str (⟨#[115]⟩ : ByteArray), .int .i64 10, .int .i64 0]]) [40] (by kernel_rfl) (by kernel_rfl)) (pc_cons (pk (.sl [[.int .i64 0, .int .i64 2]]) [42] (by kernel_rfl) (by kernel_rfl)) pc_nil))))) (ps_plain (pv_one pf_d) (ps_plain (pv_one pf_d) ps_nil))) (by kernel_rfl) (by kernel_rfl) (by kernel_rfl) (cl19 (TRetained.mk [(TTrace.mk 3 1 v1486)] [] [(TRemoved.mk 0 (⟨#[115]⟩ : ByteArray) 10 0)] [(TLate.mk 0 2)]) 0 (⟨#[115]⟩ : ByteArray) h) ?_
    rintro hR _ _ ⟨r2360, rfl, rfl, h⟩
    refine ⟨true, (.tup [.one (.d (.int .i64 r2360.1)), .one (.d (.int .i64 r2360.2))], []), (fun _ => (by kernel_rfl)), (by kernel_rfl), ?_⟩
    refine l_ds 36 (.tup [.one (.d (.int .i64 r2360.1)), .one (.d (.int .i64 r2360.2))]) ?_
    refine l_ds 45 (.one (.d (.int .i64 r2360.1))) ?_
    refine l_ds 46 (.one (.d (.int .i64 r2360.2))) ?_
    refine l_ds 7 (.one (.d (.int .i64 r2360.1))) ?_
    refine l_ds 8 (.one (.d (.int .i64 r2360.2))) ?_
    refine l_nil ?_
    refine AW.seqL (S := Bool) (fun s => (fun (v2365 : Bool) => [(0, .one (.d (.bool v2365)))]) s) (fun s => (fun (v2365 : Bool) => []) s) (fun s : Bool => J12_2 K s) ?_ ?_
    · refine AW.regL [(0, none), (1, none), (2, none), (3, none), (4, none), (5, none), (6, none), (7, none), (8, none), (9, none), (10, none), (11, none), (12, none), (13, none), (14, none), (15, none), (16, none), (17, none), (18, none), (19, none), (20, none), (21, none), (22, none), (23, none), (24, none), (25, none), (26, none), (27, none), (28, none), (29, none), (30, none), (31, none), (32, none), (33, none), (34, none), (35, none), (36, none), (37, none), (38, none), (39, none), (40, none), (41, none)] (by kernel_rfl) ?_
      refine l_ds 47 (.one (.d (.int .i64 r1474.2))) ?_
      refine l_ds 48 (.one (.d (.bool (decide (r1474.2 = 0))))) ?_
      refine l_ds 49 (.one (.d (.bool (decide (r1474.2 = 0))))) ?_
      refine l_split (s := 49) (by kernel_rfl) h (fun h => ?_) (fun h => ?_)
      · refine l_ds 50 (.one (.d (.int .i64 r1478.2))) ?_
        refine l_ds 51 (.one (.d (.bool (decide (r1478.2 = 0))))) ?_
        refine l_ds 52 (.one (.d (.bool (decide (r1478.2 = 0))))) ?_
        refine l_ds 53 (.one (.d (.bool (decide (r1478.2 = 0))))) ?_
        refine l_split (s := 53) (by kernel_rfl) h (fun h => ?_) (fun h => ?_)
        · refine l_ds 54 (.one (.view 200001 0 0 ((List.map TLine.enc r1474.1).length))) ?_
          refine l_spec (some 55) (.lens (.t 54)) (.one (.d (.int .i64 (r1474.1.length : Int))), []) (by kernel_rfl) (detA_none (d_lens_v (enc := TLine.enc) (o := 200001) (g := 0) r1474.1 (by kernel_rfl))) ?_
          refine l_ds 56 (.one (.d (.bool (decide ((r1474.1.length : Int) = 1))))) ?_
          refine l_ds 57 (.one (.d (.bool (decide ((r1474.1.length : Int) = 1))))) ?_
          refine l_ds 58 (.one (.d (.bool (decide ((r1474.1.length : Int) = 1))))) ?_
          refine l_split (s := 58) (by kernel_rfl) h (fun h => ?_) (fun h => ?_)
          · refine l_ds 59 (.one (.view 200001 0 0 ((List.map TLine.enc r1474.1).length))) ?_
            obtain ⟨h47, x2366, h48, h⟩ := h
            refine l_spec (some 60) (.iad 7 (.t 59) (.c (.int .i64 0))) (.one (.ref 200001 0 ((0 : Int).toNat) 0), []) (by kernel_rfl) (detA_none (d_iad_v (enc := TLine.enc) (k := .i64) (E := 41) (l := true) (ys := dmm (List.map TLine.enc r1474.1)) r1474.1 x2366 (by kernel_rfl) (by kernel_rfl) (by kernel_rfl) (by kernel_rfl) h47 h48)) ?_
            refine l_ds 61 (.one (.ref 200001 0 ((0 : Int).toNat) 3)) ?_
            refine l_spec (some 62) (.ld true 4 (.t 61)) (.agg [.d (.int .i64 x2366.total.spans), .d (.int .i64 x2366.total.errors), .d (.int .i64 x2366.total.duration), .d (.int .i64 x2366.total.traces)], []) (by kernel_rfl) (detA_none (d_ld_row (enc := TLine.enc) (o := 200001) (g := 0) (i := ((0 : Int).toNat)) (off := 3) (E := 41) (sz := 7) (l := true) r1474.1 x2366 (by kernel_rfl) (by kernel_rfl) (by kernel_rfl) h48 (by kernel_rfl))) ?_
            refine l_ds 63 (.agg [.d (.int .i64 8), .d (.int .i64 4), .d (.int .i64 60), .d (.int .i64 4)]) ?_
            refine l_ds 64 (.one (.d (.bool (decide (x2366.total.spans = 8) && (decide (x2366.total.errors = 4) && (decide (x2366.total.duration = 60) && (decide (x2366.total.traces = 4) && true))))))) ?_
            refine l_ds 65 (.one (.d (.bool (decide (x2366.total.spans = 8) && (decide (x2366.total.errors = 4) && (decide (x2366.total.duration = 60) && (decide (x2366.total.traces = 4) && true))))))) ?_
            refine l_ds 66 (.one (.d (.bool (decide (x2366.total.spans = 8) && (decide (x2366.total.errors = 4) && (decide (x2366.total.duration = 60) && (decide (x2366.total.traces = 4) && true))))))) ?_
            refine l_split (s := 66) (by kernel_rfl) h (fun h => ?_) (fun h => ?_)
            · refine l_ds 67 (.one (.view 200002 0 0 ((List.map TLine.enc r1478.1).length))) ?_
              refine l_spec (some 68) (.lens (.t 67)) (.one (.d (.int .i64 (r1478.1.length : Int))), []) (by kernel_rfl) (detA_none (d_lens_v (enc := TLine.enc) (o := 200002) (g := 0) r1478.1 (by kernel_rfl))) ?_
              refine l_ds 69 (.one (.d (.bool (decide ((r1478.1.length : Int) = 2))))) ?_
              refine l_ds 70 (.one (.d (.bool (decide ((r1478.1.length : Int) = 2))))) ?_
              refine l_ds 71 (.one (.d (.bool (decide ((r1478.1.length : Int) = 2))))) ?_
              refine l_split (s := 71) (by kernel_rfl) h (fun h => ?_) (fun h => ?_)
              · refine l_ds 72 (.one (.view 200002 0 0 ((List.map TLine.enc r1478.1).length))) ?_
                obtain ⟨h49, x2367, h50, h⟩ := h
                refine l_spec (some 73) (.iad 7 (.t 72) (.c (.int .i64 1))) (.one (.ref 200002 0 ((1 : Int).toNat) 0), []) (by kernel_rfl) (detA_none (d_iad_v (enc := TLine.enc) (k := .i64) (E := 41) (l := true) (ys := dmm (List.map TLine.enc r1478.1)) r1478.1 x2367 (by kernel_rfl) (by kernel_rfl) (by kernel_rfl) (by kernel_rfl) h49 h50)) ?_
                refine l_spec (some 74) (.ld true 7 (.t 73)) (.agg [.d (.str x2367.group.service), .d (.str x2367.group.version), .d (.str x2367.group.operation), .d (.int .i64 x2367.total.spans), .d (.int .i64 x2367.total.errors), .d (.int .i64 x2367.total.duration), .d (.int .i64 x2367.total.traces)], []) (by kernel_rfl) (detA_none (d_ld_row (enc := TLine.enc) (o := 200002) (g := 0) (i := ((1 : Int).toNat)) (off := 0) (E := 41) (sz := 7) (l := true) r1478.1 x2367 (by kernel_rfl) (by kernel_rfl) (by kernel_rfl) h50 (by kernel_rfl))) ?_
                refine l_ds 75 (.agg [.d (.str (⟨#[97, 112, 105]⟩ : ByteArray)), .d (.str (⟨#[118, 50]⟩ : ByteArray)), .d (.str (⟨#[]⟩ : ByteArray))]) ?_
                refine l_ds 76 (.agg [.d (.int .i64 4), .d (.int .i64 4), .d (.int .i64 20), .d (.int .i64 4)]) ?_
                refine l_ds 77 (.agg [.d (.str (⟨#[97, 112, 105]⟩ : ByteArray)), .d (.str (⟨#[118, 50]⟩ : ByteArray)), .d (.str (⟨#[]⟩ : ByteArray)), .d (.int .i64 4), .d (.int .i64 4), .d (.int .i64 20), .d (.int .i64 4)]) ?_
                refine l_ds 78 (.one (.d (.bool (decide (x2367.group.service = (⟨#[97, 112, 105]⟩ : ByteArray)) && (decide (x2367.group.version = (⟨#[118, 50]⟩ : ByteArray)) && (decide (x2367.group.operation = (⟨#[]⟩ : ByteArray)) && (decide (x2367.total.spans = 4) && (decide (x2367.total.errors = 4) && (decide (x2367.total.duration = 20) && (decide (x2367.total.traces = 4) && true)))))))))) ?_
                refine l_ds 79 (.one (.d (.bool (decide (x2367.group.service = (⟨#[97, 112, 105]⟩ : ByteArray)) && (decide (x2367.group.version = (⟨#[118, 50]⟩ : ByteArray)) && (decide (x2367.group.operation = (⟨#[]⟩ : ByteArray)) && (decide (x2367.total.spans = 4) && (decide (x2367.total.errors = 4) && (decide (x2367.total.duration = 20) && (decide (x2367.total.traces = 4) && true)))))))))) ?_
                refine l_ds 80 (.one (.d (.bool (decide (x2367.group.service = (⟨#[97, 112, 105]⟩ : ByteArray)) && (decide (x2367.group.version = (⟨#[118, 50]⟩ : ByteArray)) && (decide (x2367.group.operation = (⟨#[]⟩ : ByteArray)) && (decide (x2367.total.spans = 4) && (decide (x2367.total.errors = 4) && (decide (x2367.total.duration = 20) && (decide (x2367.total.traces = 4) && true)))))))))) ?_
                refine l_split (s := 80) (by kernel_rfl) h (fun h => ?_) (fun h => ?_)
                · refine l_ds 81 (.one (.d (.int .i64 r2360.1))) ?_
                  refine l_ds 82 (.one (.d (.bool (decide (r2360.1 = 11))))) ?_
                  refine l_ds 83 (.one (.d (.bool (decide (r2360.1 = 11))))) ?_
                  refine l_ds 84 (.one (.d (.bool (decide (r2360.1 = 11))))) ?_
                  refine l_split (s := 84) (by kernel_rfl) h (fun h => ?_) (fun h => ?_)
                  · refine l_ds 85 (.one (.d (.int .i64 r2360.2))) ?_
                    refine l_ds 86 (.one (.d (.bool (decide (r2360.2 = 15))))) ?_
                    refine l_ds 87 (.one (.d (.bool (decide (r2360.2 = 15))))) ?_
                    refine l_ds 0 (.one (.d (.bool (decide (r2360.2 = 15))))) ?_
                    refine l_nil ?_
                    refine q_fall ?_
                    exact Lab.m (decide (r2360.2 = 15)) [] h
                  · refine l_ds 85 (.tup []) ?_
                    refine l_ds 86 (.tup []) ?_
                    refine l_ds 87 (.one (.d (.bool false))) ?_
                    refine l_ds 0 (.one (.d (.bool false))) ?_
                    refine l_nil ?_
                    refine q_fall ?_
                    exact Lab.m false [] h
                · refine l_ds 81 (.tup []) ?_
                  refine l_ds 82 (.tup []) ?_
                  refine l_ds 83 (.one (.d (.bool false))) ?_
                  refine l_ds 84 (.one (.d (.bool false))) ?_
                  refine l_ds 85 (.tup []) ?_
                  refine l_ds 86 (.tup []) ?_
                  refine l_ds 87 (.one (.d (.bool false))) ?_
                  refine l_ds 0 (.one (.d (.bool false))) ?_
                  refine l_nil ?_
                  refine q_fall ?_
                  exact Lab.m false [] h
              · refine l_ds 72 (.tup []) ?_
                refine l_ds 73 (.tup []) ?_
                refine l_ds 74 (.tup []) ?_
                refine l_ds 75 (.tup []) ?_
                refine l_ds 76 (.tup []) ?_
                refine l_ds 77 (.tup []) ?_
                refine l_ds 78 (.tup []) ?_
                refine l_ds 79 (.one (.d (.bool false))) ?_
                refine l_ds 80 (.one (.d (.bool false))) ?_
                refine l_ds 81 (.tup []) ?_
                refine l_ds 82 (.tup []) ?_
                refine l_ds 83 (.one (.d (.bool false))) ?_
                refine l_ds 84 (.one (.d (.bool false))) ?_
                refine l_ds 85 (.tup []) ?_
                refine l_ds 86 (.tup []) ?_
                refine l_ds 87 (.one (.d (.bool false))) ?_
                refine l_ds 0 (.one (.d (.bool false))) ?_
                refine l_nil ?_
                refine q_fall ?_
                exact Lab.m false [] h
            · refine l_ds 67 (.tup []) ?_
              refine l_ds 68 (.tup []) ?_
              refine l_ds 69 (.tup []) ?_
              refine l_ds 70 (.one (.d (.bool false))) ?_
              refine l_ds 71 (.one (.d (.bool false))) ?_
              refine l_ds 72 (.tup []) ?_
              refine l_ds 73 (.tup []) ?_
              refine l_ds 74 (.tup []) ?_
              refine l_ds 75 (.tup []) ?_
              refine l_ds 76 (.tup []) ?_
              refine l_ds 77 (.tup []) ?_
              refine l_ds 78 (.tup []) ?_
              refine l_ds 79 (.one (.d (.bool false))) ?_
              refine l_ds 80 (.one (.d (.bool false))) ?_
              refine l_ds 81 (.tup []) ?_
              refine l_ds 82 (.tup []) ?_
              refine l_ds 83 (.one (.d (.bool false))) ?_
              refine l_ds 84 (.one (.d (.bool false))) ?_
              refine l_ds 85 (.tup []) ?_
              refine l_ds 86 (.tup []) ?_
              refine l_ds 87 (.one (.d (.bool false))) ?_
              refine l_ds 0 (.one (.d (.bool false))) ?_
              refine l_nil ?_
              refine q_fall ?_
              exact Lab.m false [] h
          · refine l_ds 59 (.tup []) ?_
            refine l_ds 60 (.tup []) ?_
            refine l_ds 61 (.tup []) ?_
            refine l_ds 62 (.tup []) ?_
            refine l_ds 63 (.tup []) ?_
            refine l_ds 64 (.tup []) ?_
            refine l_ds 65 (.one (.d (.bool false))) ?_
            refine l_ds 66 (.one (.d (.bool false))) ?_
            refine l_ds 67 (.tup []) ?_
            refine l_ds 68 (.tup []) ?_
            refine l_ds 69 (.tup []) ?_
            refine l_ds 70 (.one (.d (.bool false))) ?_
            refine l_ds 71 (.one (.d (.bool false))) ?_
            refine l_ds 72 (.tup []) ?_
            refine l_ds 73 (.tup []) ?_
            refine l_ds 74 (.tup []) ?_
            refine l_ds 75 (.tup []) ?_
            refine l_ds 76 (.tup []) ?_
            refine l_ds 77 (.tup []) ?_
            refine l_ds 78 (.tup []) ?_
            refine l_ds 79 (.one (.d (.bool false))) ?_
            refine l_ds 80 (.one (.d (.bool false))) ?_
            refine l_ds 81 (.tup []) ?_
            refine l_ds 82 (.tup []) ?_
            refine l_ds 83 (.one (.d (.bool false))) ?_
            refine l_ds 84 (.one (.d (.bool false))) ?_
            refine l_ds 85 (.tup []) ?_
            refine l_ds 86 (.tup []) ?_
            refine l_ds 87 (.one (.d (.bool false))) ?_
            refine l_ds 0 (.one (.d (.bool false))) ?_
            refine l_nil ?_
            refine q_fall ?_
            exact Lab.m false [] h
        · refine l_ds 54 (.tup []) ?_
          refine l_ds 55 (.tup []) ?_
          refine l_ds 56 (.tup []) ?_
          refine l_ds 57 (.one (.d (.bool false))) ?_
          refine l_ds 58 (.one (.d (.bool false))) ?_
          refine l_ds 59 (.tup []) ?_
          refine l_ds 60 (.tup []) ?_
          refine l_ds 61 (.tup []) ?_
          refine l_ds 62 (.tup []) ?_
          refine l_ds 63 (.tup []) ?_
          refine l_ds 64 (.tup []) ?_
          refine l_ds 65 (.one (.d (.bool false))) ?_
          refine l_ds 66 (.one (.d (.bool false))) ?_
          refine l_ds 67 (.tup []) ?_
          refine l_ds 68 (.tup []) ?_
          refine l_ds 69 (.tup []) ?_
          refine l_ds 70 (.one (.d (.bool false))) ?_
          refine l_ds 71 (.one (.d (.bool false))) ?_
          refine l_ds 72 (.tup []) ?_
          refine l_ds 73 (.tup []) ?_
          refine l_ds 74 (.tup []) ?_
          refine l_ds 75 (.tup []) ?_
          refine l_ds 76 (.tup []) ?_
          refine l_ds 77 (.tup []) ?_
          refine l_ds 78 (.tup []) ?_
          refine l_ds 79 (.one (.d (.bool false))) ?_
          refine l_ds 80 (.one (.d (.bool false))) ?_
          refine l_ds 81 (.tup []) ?_
          refine l_ds 82 (.tup []) ?_
          refine l_ds 83 (.one (.d (.bool false))) ?_
          refine l_ds 84 (.one (.d (.bool false))) ?_
          refine l_ds 85 (.tup []) ?_
          refine l_ds 86 (.tup []) ?_
          refine l_ds 87 (.one (.d (.bool false))) ?_
          refine l_ds 0 (.one (.d (.bool false))) ?_
          refine l_nil ?_
          refine q_fall ?_
          exact Lab.m false [] h
      · refine l_ds 50 (.tup []) ?_
        refine l_ds 51 (.tup []) ?_
        refine l_ds 52 (.one (.d (.bool false))) ?_
        refine l_ds 53 (.one (.d (.bool false))) ?_
        refine l_ds 54 (.tup []) ?_
        refine l_ds 55 (.tup []) ?_
        refine l_ds 56 (.tup []) ?_
        refine l_ds 57 (.one (.d (.bool false))) ?_
        refine l_ds 58 (.one (.d (.bool false))) ?_
        refine l_ds 59 (.tup []) ?_
        refine l_ds 60 (.tup []) ?_
        refine l_ds 61 (.tup []) ?_
        refine l_ds 62 (.tup []) ?_
        refine l_ds 63 (.tup []) ?_
        refine l_ds 64 (.tup []) ?_
        refine l_ds 65 (.one (.d (.bool false))) ?_
        refine l_ds 66 (.one (.d (.bool false))) ?_
        refine l_ds 67 (.tup []) ?_
        refine l_ds 68 (.tup []) ?_
        refine l_ds 69 (.tup []) ?_
        refine l_ds 70 (.one (.d (.bool false))) ?_
        refine l_ds 71 (.one (.d (.bool false))) ?_
        refine l_ds 72 (.tup []) ?_
        refine l_ds 73 (.tup []) ?_
        refine l_ds 74 (.tup []) ?_
        refine l_ds 75 (.tup []) ?_
        refine l_ds 76 (.tup []) ?_
        refine l_ds 77 (.tup []) ?_
        refine l_ds 78 (.tup []) ?_
        refine l_ds 79 (.one (.d (.bool false))) ?_
        refine l_ds 80 (.one (.d (.bool false))) ?_
        refine l_ds 81 (.tup []) ?_
        refine l_ds 82 (.tup []) ?_
        refine l_ds 83 (.one (.d (.bool false))) ?_
        refine l_ds 84 (.one (.d (.bool false))) ?_
        refine l_ds 85 (.tup []) ?_
        refine l_ds 86 (.tup []) ?_
        refine l_ds 87 (.one (.d (.bool false))) ?_
        refine l_ds 0 (.one (.d (.bool false))) ?_
        refine l_nil ?_
        refine q_fall ?_
        exact Lab.m false [] h
    · rintro v2365 h
      have h : J12_2 K v2365 := h
      unfold J12_2 at h
      refine AW.ret ?_
      exact q_end [.one (.d (.bool v2365))] [false] [.one (.d (.bool v2365))] [] [] (by kernel_rfl) ⟨by kernel_rfl, by kernel_rfl⟩ (by kernel_rfl) (by kernel_rfl) (by kernel_rfl) (by kernel_rfl) (Eq.mp (by kernel_rfl) (hK v2365 h)) (.inr rfl)
def r16_0 : List AR := [⟨some 1, .box 27 true 7 (.t 0), [], none⟩,
  ⟨some 2, .mov (.c (.bool false)), [], none⟩]
def r16_1 : List AR := [⟨some 3, .mov (.c (.int .i64 0)), [], none⟩]
def r16_2 : List AR := [⟨some 4, .mov (.t 3), [], none⟩,
  ⟨some 5, .fad (.t 1) 0, [], none⟩,
  ⟨some 6, .ld false 1 (.t 5), [1], none⟩,
  ⟨some 7, .lens (.t 6), [2], none⟩,
  ⟨some 8, .bin .lss (.t 4) (.t 7), [0, 3], none⟩]
def r16_3 : List AR := [⟨some 11, .fad (.t 1) 0, [], none⟩,
  ⟨some 12, .ld false 1 (.t 11), [0], none⟩,
  ⟨some 13, .mov (.t 3), [], none⟩,
  ⟨some 14, .iad 3 (.t 12) (.t 13), [1, 2], none⟩,
  ⟨some 15, .fad (.t 14) 2, [3], none⟩,
  ⟨some 16, .ld false 1 (.t 15), [4], none⟩,
  ⟨some 17, .lens (.t 16), [5], none⟩,
  ⟨some 18, .bin .gtr (.t 17) (.c (.int .i64 8)), [6], none⟩]
def r16_4 : List AR := [⟨some 2, .mov (.c (.bool false)), [], none⟩]
def r16_5 : List AR := [⟨some 9, .mov (.t 3), [], none⟩,
  ⟨some 10, .bin .add (.t 9) (.c (.int .i64 1)), [0], none⟩,
  ⟨some 3, .mov (.t 10), [1, 0, 1], none⟩]
def r16_6 : List AR := [⟨some 19, .fad (.t 1) 0, [], none⟩,
  ⟨some 20, .ld false 1 (.t 19), [0], none⟩,
  ⟨some 21, .lens (.t 20), [1], none⟩,
  ⟨some 22, .bin .leq (.t 21) (.c (.int .i64 3)), [2], none⟩,
  ⟨some 23, .mov (.t 22), [3], none⟩,
  ⟨some 24, .fad (.t 1) 5, [4], some (23, true)⟩,
  ⟨some 25, .ld false 1 (.t 24), [5, 4], some (23, true)⟩,
  ⟨some 26, .lens (.t 25), [6, 4], some (23, true)⟩,
  ⟨some 27, .bin .leq (.t 26) (.c (.int .i64 6)), [7, 4], some (23, true)⟩,
  ⟨some 28, .pick (.t 23) (.t 27) (.c (.bool false)), [4, 8], none⟩,
  ⟨some 2, .mov (.t 28), [9, 4, 0, 1, 2, 3, 4, 5, 6, 7, 8, 9], none⟩]
def c16 : ACode := .seq (.reg r16_0 false) (.seq (.seq (.reg r16_1 false) (.blk 0 (.loop (.seq (.seq (.reg r16_2 false) (.cond (.t 8) (.skip) (.exit 0))) (.seq (.blk 1 (.seq (.reg r16_3 false) (.cond (.t 18) (.seq (.reg r16_4 false) (.ret)) (.skip)))) (.reg r16_5 false)))))) (.seq (.reg r16_6 false) (.ret)))
theorem body16 : Try.f16.body.map (comp Try.prog 29) = some c16 := by kernel_rfl
theorem res16 : allSome (Try.f16.results.toList.map (compRes Try.prog)) = some [.s 2] := by kernel_rfl
theorem cok16 {S : FSpec} (h : ∀ args K, S args K → args.all argOk = true ∧ args.length ≤ 29 ∧ AW Try.prog 29 (some ownP) c16 (initS args) (retPost [.s 2] args K)) : COK Try.prog 16 S := of_body Try.func16 Try.ntmps16 body16 res16 h

def J16_2 (K : Bool → Prop) (v2400 : Bool) : Prop :=
  K v2400

def L16_1 (s_16 : TStory) (K : Bool → Prop) (v2390 : Int) (N2395 : Int → Prop) : Prop :=
  Cond (decide (v2390 < (s_16.trees.length : Int))) (Idx s_16.trees v2390 fun x2399 => Cond (decide ((x2399.calls.length : Int) > 8)) (K false) (N2395 (w64 (v2390 + 1)))) (Cond (decide ((s_16.trees.length : Int) ≤ 3)) (J16_2 K (decide ((s_16.syncs.length : Int) ≤ 6))) (J16_2 K false))

/-- sleuth/sleuthlaw13.Short -/
def W16 (s_16 : TStory) (K : Bool → Prop) : Prop :=
  LoopW (fun (s : Int) N2395 => L16_1 s_16 K s N2395) 0

def S16 : FSpec := fun args K => ∃ (s_16 : TStory), ∃ (Kr : Bool → Prop), args = [.agg (List.map RC.d (TStory.enc s_16))] ∧ W16 s_16 Kr ∧ ∀ r, Kr r → K (.one (.d (.bool r))) []

theorem en16 : enters Try.prog 16 = true := by unfold enters; rw [Try.func16]; rfl
theorem cl16 (s_16 : TStory) {Kr : Bool → Prop} (h : W16 s_16 Kr) : S16 [.agg (List.map RC.d (TStory.enc s_16))] (fun rv rows => ∃ r, rv = (.one (.d (.bool r))) ∧ rows = [] ∧ Kr r) := ⟨s_16, Kr, rfl, h, fun r hr => ⟨r, rfl, rfl, hr⟩⟩

theorem ok16 : COK Try.prog 16 S16 := by
  refine cok16 fun args K0 hS => ?_
  obtain ⟨s_16, K, rfl, h, hK⟩ := hS
  refine ⟨by kernel_rfl, by simp, ?_⟩
  unfold W16 at h
  refine AW.sregL [(0, none), (1, none)] (by kernel_rfl) ?_
  refine l_det (some 1) (.one (.ref 1 1 0 0), [(1, 1, .row true 27 7 [[.d (.sl (List.map TTree.enc s_16.trees)), .d (.int .i8 s_16.offsets.e0), .d (.int .i8 s_16.offsets.e1), .d (.int .i8 s_16.offsets.e2), .d (.int .i8 s_16.offsets.e3), .d (.sl (List.map TSync.enc s_16.syncs)), .d (.int .u8 s_16.wrong)]])]) (by kernel_rfl) ?_
  refine l_ds 2 (.one (.d (.bool false))) ?_
  refine l_nil ?_
  refine AW.seq ?_
  refine AW.sregL [(0, none)] (by kernel_rfl) ?_
  refine l_ds 3 (.one (.d (.int .i64 0))) ?_
  refine l_nil ?_
  refine AW.blk ?_
  refine AW.loopL (S := Int) (fun s => (fun (v2390 : Int) => [(1, .one (.ref 200001 0 0 0)), (3, .one (.d (.int .i64 v2390)))]) s) (fun s => (fun (v2390 : Int) => [(200001, .expl true 27 7 [[.d (.sl (List.map TTree.enc s_16.trees)), .d (.int .i8 s_16.offsets.e0), .d (.int .i8 s_16.offsets.e1), .d (.int .i8 s_16.offsets.e2), .d (.int .i8 s_16.offsets.e3), .d (.sl (List.map TSync.enc s_16.syncs)), .d (.int .u8 s_16.wrong)]])]) s) (fun (s : Int) N2395 => L16_1 s_16 K s N2395) (N := fun s => LoopW (fun (s : Int) N2395 => L16_1 s_16 K s N2395) s) (Lab.m 0 [(200001, some 1)] h) (fun _ h => h) ?_
  rintro v2390 N2395 h
  have h : L16_1 s_16 K v2390 N2395 := h
  unfold L16_1 at h
  refine AW.seq ?_
  refine AW.sregL [(0, none), (1, none), (2, none), (3, none), (4, none)] (by kernel_rfl) ?_
  refine l_ds 4 (.one (.d (.int .i64 v2390))) ?_
  refine l_ds 5 (.one (.ref 200001 0 0 0)) ?_
  refine l_ds 6 (.one (.d (.sl (List.map TTree.enc s_16.trees)))) ?_
  refine l_spec (some 7) (.lens (.t 6)) (.one (.d (.int .i64 (s_16.trees.length : Int))), []) (by kernel_rfl) (detA_none (d_lens_sl (enc := TTree.enc) s_16.trees (by kernel_rfl))) ?_
  refine l_ds 8 (.one (.d (.bool (decide (v2390 < (s_16.trees.length : Int)))))) ?_
  refine l_nil ?_
  refine AW.cond' (by kernel_rfl) h (fun h => ?_) (fun h => ?_)
  · refine AW.skip ?_
    refine q_fall ?_
    refine AW.seq ?_
    refine AW.blk ?_
    refine AW.sregL [(0, none), (1, none), (2, none), (3, none), (4, none), (5, none), (6, none), (7, none)] (by kernel_rfl) ?_
    refine l_ds 11 (.one (.ref 200001 0 0 0)) ?_
    refine l_ds 12 (.one (.d (.sl (List.map TTree.enc s_16.trees)))) ?_
    refine l_ds 13 (.one (.d (.int .i64 v2390))) ?_
    obtain ⟨h47, x2399, h48, h⟩ := h
    refine l_spec (some 14) (.iad 3 (.t 12) (.t 13)) (.one (.d (.ptr [.int .u8 x2399.slot, .int .u8 x2399.start, .sl (List.map TCall.enc x2399.calls)])), []) (by kernel_rfl) (detA_none (d_iad_sl (enc := TTree.enc) (k := .i64) s_16.trees x2399 (by kernel_rfl) (by kernel_rfl) h47 h48 rfl)) ?_
    refine l_ds 15 (.one (.d (.ptr [.sl (List.map TCall.enc x2399.calls)]))) ?_
    refine l_ds 16 (.one (.d (.sl (List.map TCall.enc x2399.calls)))) ?_
    refine l_spec (some 17) (.lens (.t 16)) (.one (.d (.int .i64 (x2399.calls.length : Int))), []) (by kernel_rfl) (detA_none (d_lens_sl (enc := TCall.enc) x2399.calls (by kernel_rfl))) ?_
    refine l_ds 18 (.one (.d (.bool (decide ((x2399.calls.length : Int) > 8))))) ?_
    refine l_nil ?_
    refine AW.cond' (by kernel_rfl) h (fun h => ?_) (fun h => ?_)
    · refine AW.sregL [(0, none)] (by kernel_rfl) ?_
      refine l_ds 2 (.one (.d (.bool false))) ?_
      refine l_nil ?_
      refine AW.ret ?_
      refine q_bret ?_
      refine q_ret ?_
      refine q_ret ?_
      refine q_bret ?_
      refine q_ret ?_
      exact q_end [.one (.d (.bool false))] [false] [.one (.d (.bool false))] [] [] (by kernel_rfl) ⟨by kernel_rfl, by kernel_rfl⟩ (by kernel_rfl) (by kernel_rfl) (by kernel_rfl) (by kernel_rfl) (Eq.mp (by kernel_rfl) (hK false h)) (.inr rfl)
    · refine AW.skip ?_
      refine q_bfall ?_
      refine q_fall ?_
      refine AW.regL [(0, none), (1, none), (2, none)] (by kernel_rfl) ?_
      refine l_ds 9 (.one (.d (.int .i64 v2390))) ?_
      refine l_ds 10 (.one (.d (.int .i64 (w64 (v2390 + 1))))) ?_
      refine l_ds 3 (.one (.d (.int .i64 (w64 (v2390 + 1))))) ?_
      refine l_nil ?_
      refine q_fall ?_
      exact Lab.m (w64 (v2390 + 1)) [(200001, some 200001)] h
  · refine AW.exit ?_
    refine q_exit ?_
    refine q_exit ?_
    refine q_bhere ?_
    refine q_fall ?_
    refine AW.seqL (S := Bool) (fun s => (fun (v2400 : Bool) => [(2, .one (.d (.bool v2400)))]) s) (fun s => (fun (v2400 : Bool) => []) s) (fun s : Bool => J16_2 K s) ?_ ?_
    · refine AW.regL [(0, none), (1, none), (2, none), (3, none), (4, none), (5, none), (6, none), (7, none), (8, none), (9, none), (10, none)] (by kernel_rfl) ?_
      refine l_ds 19 (.one (.ref 200001 0 0 0)) ?_
      refine l_ds 20 (.one (.d (.sl (List.map TTree.enc s_16.trees)))) ?_
      refine l_spec (some 21) (.lens (.t 20)) (.one (.d (.int .i64 (s_16.trees.length : Int))), []) (by kernel_rfl) (detA_none (d_lens_sl (enc := TTree.enc) s_16.trees (by kernel_rfl))) ?_
      refine l_ds 22 (.one (.d (.bool (decide ((s_16.trees.length : Int) ≤ 3))))) ?_
      refine l_ds 23 (.one (.d (.bool (decide ((s_16.trees.length : Int) ≤ 3))))) ?_
      refine l_split (s := 23) (by kernel_rfl) h (fun h => ?_) (fun h => ?_)
      · refine l_ds 24 (.one (.ref 200001 0 0 5)) ?_
        refine l_ds 25 (.one (.d (.sl (List.map TSync.enc s_16.syncs)))) ?_
        refine l_spec (some 26) (.lens (.t 25)) (.one (.d (.int .i64 (s_16.syncs.length : Int))), []) (by kernel_rfl) (detA_none (d_lens_sl (enc := TSync.enc) s_16.syncs (by kernel_rfl))) ?_
        refine l_ds 27 (.one (.d (.bool (decide ((s_16.syncs.length : Int) ≤ 6))))) ?_
        refine l_ds 28 (.one (.d (.bool (decide ((s_16.syncs.length : Int) ≤ 6))))) ?_
        refine l_ds 2 (.one (.d (.bool (decide ((s_16.syncs.length : Int) ≤ 6))))) ?_
        refine l_nil ?_
        refine q_fall ?_
        exact Lab.m (decide ((s_16.syncs.length : Int) ≤ 6)) [] h
      · refine l_ds 24 (.tup []) ?_
        refine l_ds 25 (.tup []) ?_
        refine l_ds 26 (.tup []) ?_
        refine l_ds 27 (.tup []) ?_
        refine l_ds 28 (.one (.d (.bool false))) ?_
        refine l_ds 2 (.one (.d (.bool false))) ?_
        refine l_nil ?_
        refine q_fall ?_
        exact Lab.m false [] h
    · rintro v2400 h
      have h : J16_2 K v2400 := h
      unfold J16_2 at h
      refine AW.ret ?_
      exact q_end [.one (.d (.bool v2400))] [false] [.one (.d (.bool v2400))] [] [] (by kernel_rfl) ⟨by kernel_rfl, by kernel_rfl⟩ (by kernel_rfl) (by kernel_rfl) (by kernel_rfl) (by kernel_rfl) (Eq.mp (by kernel_rfl) (hK v2400 h)) (.inr rfl)
def r41_0 : List AR := [⟨some 2, .box 27 true 7 (.t 0), [], none⟩,
  ⟨some 4, .mov (.c (.int .i64 0)), [], none⟩]
def r41_1 : List AR := [⟨some 5, .fad (.t 2) 0, [], none⟩,
  ⟨some 6, .ld false 1 (.t 5), [0], none⟩,
  ⟨some 7, .mov (.t 1), [], none⟩,
  ⟨some 8, .iad 3 (.t 6) (.t 7), [1, 2], none⟩,
  ⟨some 9, .fad (.t 8) 0, [3], none⟩,
  ⟨some 10, .ld false 1 (.t 9), [4], none⟩,
  ⟨some 11, .bin .rem (.t 10) (.c (.int .u8 64)), [5], none⟩,
  ⟨some 12, .cvi .i64 (.t 11), [6], none⟩,
  ⟨some 13, .bin .shl (.t 12) (.c (.int .u64 20)), [7], none⟩,
  ⟨some 14, .bin .add (.t 13) (.c (.int .i64 1)), [8], none⟩,
  ⟨some 15, .mov (.t 1), [], none⟩,
  ⟨some 16, .bin .add (.t 14) (.t 15), [9, 10], none⟩,
  ⟨some 4, .mov (.t 16), [11, 0, 1, 2, 3, 4, 5, 6, 7, 8, 9, 10, 11], none⟩]
def c41 : ACode := .seq (.reg r41_0 false) (.seq (.reg r41_1 false) (.ret))
theorem body41 : Try.f41.body.map (comp Try.prog 17) = some c41 := by kernel_rfl
theorem res41 : allSome (Try.f41.results.toList.map (compRes Try.prog)) = some [.s 4] := by kernel_rfl
theorem cok41 {S : FSpec} (h : ∀ args K, S args K → args.all argOk = true ∧ args.length ≤ 17 ∧ AW Try.prog 17 (some ownP) c41 (initS args) (retPost [.s 4] args K)) : COK Try.prog 41 S := of_body Try.func41 Try.ntmps41 body41 res41 h

/-- sleuth/sleuthlaw13.TraceId -/
def W41 (s_41 : TStory) (k_41 : Int) (K : Int → Prop) : Prop :=
  Idx s_41.trees k_41 fun x2410 => K (w64 ((w64 ((w64 ((w64 (Int.tmod x2410.slot 64)) * 2 ^ 20)) + 1)) + k_41))

def S41 : FSpec := fun args K => ∃ (s_41 : TStory), ∃ (k_41 : Int), ∃ (Kr : Int → Prop), args = [.agg (List.map RC.d (TStory.enc s_41)), .one (.d (.int .i64 k_41))] ∧ W41 s_41 k_41 Kr ∧ ∀ r, Kr r → K (.one (.d (.int .i64 r))) []

theorem en41 : enters Try.prog 41 = true := by unfold enters; rw [Try.func41]; rfl
theorem cl41 (s_41 : TStory) (k_41 : Int) {Kr : Int → Prop} (h : W41 s_41 k_41 Kr) : S41 [.agg (List.map RC.d (TStory.enc s_41)), .one (.d (.int .i64 k_41))] (fun rv rows => ∃ r, rv = (.one (.d (.int .i64 r))) ∧ rows = [] ∧ Kr r) := ⟨s_41, k_41, Kr, rfl, h, fun r hr => ⟨r, rfl, rfl, hr⟩⟩

theorem ok41 : COK Try.prog 41 S41 := by
  refine cok41 fun args K0 hS => ?_
  obtain ⟨s_41, k_41, K, rfl, h, hK⟩ := hS
  refine ⟨by kernel_rfl, by simp, ?_⟩
  unfold W41 at h
  refine AW.sregL [(0, none), (1, none)] (by kernel_rfl) ?_
  refine l_det (some 2) (.one (.ref 2 1 0 0), [(2, 1, .row true 27 7 [[.d (.sl (List.map TTree.enc s_41.trees)), .d (.int .i8 s_41.offsets.e0), .d (.int .i8 s_41.offsets.e1), .d (.int .i8 s_41.offsets.e2), .d (.int .i8 s_41.offsets.e3), .d (.sl (List.map TSync.enc s_41.syncs)), .d (.int .u8 s_41.wrong)]])]) (by kernel_rfl) ?_
  refine l_ds 4 (.one (.d (.int .i64 0))) ?_
  refine l_nil ?_
  refine AW.sregL [(0, none), (1, none), (2, none), (3, none), (4, none), (5, none), (6, none), (7, none), (8, none), (9, none), (10, none), (11, none), (12, none)] (by kernel_rfl) ?_
  refine l_ds 5 (.one (.ref 2 1 0 0)) ?_
  refine l_ds 6 (.one (.d (.sl (List.map TTree.enc s_41.trees)))) ?_
  refine l_ds 7 (.one (.d (.int .i64 k_41))) ?_
  obtain ⟨h3, x2410, h4, h⟩ := h
  refine l_spec (some 8) (.iad 3 (.t 6) (.t 7)) (.one (.d (.ptr [.int .u8 x2410.slot, .int .u8 x2410.start, .sl (List.map TCall.enc x2410.calls)])), []) (by kernel_rfl) (detA_none (d_iad_sl (enc := TTree.enc) (k := .i64) s_41.trees x2410 (by kernel_rfl) (by kernel_rfl) h3 h4 rfl)) ?_
  refine l_ds 9 (.one (.d (.ptr [.int .u8 x2410.slot, .int .u8 x2410.start, .sl (List.map TCall.enc x2410.calls)]))) ?_
  refine l_ds 10 (.one (.d (.int .u8 x2410.slot))) ?_
  refine l_ds 11 (.one (.d (.int .u8 (Int.tmod x2410.slot 64)))) ?_
  refine l_ds 12 (.one (.d (.int .i64 (w64 (Int.tmod x2410.slot 64))))) ?_
  refine l_ds 13 (.one (.d (.int .i64 (w64 ((w64 (Int.tmod x2410.slot 64)) * 2 ^ 20))))) ?_
  refine l_ds 14 (.one (.d (.int .i64 (w64 ((w64 ((w64 (Int.tmod x2410.slot 64)) * 2 ^ 20)) + 1))))) ?_
  refine l_ds 15 (.one (.d (.int .i64 k_41))) ?_
  refine l_ds 16 (.one (.d (.int .i64 (w64 ((w64 ((w64 ((w64 (Int.tmod x2410.slot 64)) * 2 ^ 20)) + 1)) + k_41))))) ?_
  refine l_ds 4 (.one (.d (.int .i64 (w64 ((w64 ((w64 ((w64 (Int.tmod x2410.slot 64)) * 2 ^ 20)) + 1)) + k_41))))) ?_
  refine l_nil ?_
  refine AW.ret ?_
  exact q_end [.one (.d (.int .i64 (w64 ((w64 ((w64 ((w64 (Int.tmod x2410.slot 64)) * 2 ^ 20)) + 1)) + k_41))))] [false] [.one (.d (.int .i64 (w64 ((w64 ((w64 ((w64 (Int.tmod x2410.slot 64)) * 2 ^ 20)) + 1)) + k_41))))] [] [] (by kernel_rfl) ⟨by kernel_rfl, by kernel_rfl⟩ (by kernel_rfl) (by kernel_rfl) (by kernel_rfl) (by kernel_rfl) (Eq.mp (by kernel_rfl) (hK (w64 ((w64 ((w64 ((w64 (Int.tmod x2410.slot 64)) * 2 ^ 20)) + 1)) + k_41)) h)) (.inr rfl)
def r83_0 : List AR := [⟨some 1, .box 153 true 11 (.t 0), [], none⟩,
  ⟨some 2, .mov (.c (.int .i64 0)), [], none⟩]
def r83_1 : List AR := [⟨some 3, .fad (.t 1) 2, [], none⟩,
  ⟨some 4, .ld false 1 (.t 3), [0], none⟩,
  ⟨some 5, .bin .rem (.t 4) (.c (.int .u8 5)), [1], none⟩,
  ⟨some 6, .cvi .i64 (.t 5), [2], none⟩,
  ⟨some 7, .bin .add (.c (.int .i64 1)) (.t 6), [3], none⟩,
  ⟨some 2, .mov (.t 7), [4, 0, 1, 2, 3, 4], none⟩]
def c83 : ACode := .seq (.reg r83_0 false) (.seq (.reg r83_1 false) (.ret))
theorem body83 : Try.f83.body.map (comp Try.prog 8) = some c83 := by kernel_rfl
theorem res83 : allSome (Try.f83.results.toList.map (compRes Try.prog)) = some [.s 2] := by kernel_rfl
theorem cok83 {S : FSpec} (h : ∀ args K, S args K → args.all argOk = true ∧ args.length ≤ 8 ∧ AW Try.prog 8 (some ownP) c83 (initS args) (retPost [.s 2] args K)) : COK Try.prog 83 S := of_body Try.func83 Try.ntmps83 body83 res83 h

/-- sleuth/sleuthlaw13.kind -/
def W83 (c_83 : TCall) (K : Int → Prop) : Prop :=
  K (w64 (1 + (w64 (Int.tmod c_83.kind 5))))

def S83 : FSpec := fun args K => ∃ (c_83 : TCall), ∃ (Kr : Int → Prop), args = [.agg (List.map RC.d (TCall.enc c_83))] ∧ W83 c_83 Kr ∧ ∀ r, Kr r → K (.one (.d (.int .i64 r))) []

theorem en83 : enters Try.prog 83 = true := by unfold enters; rw [Try.func83]; rfl
theorem cl83 (c_83 : TCall) {Kr : Int → Prop} (h : W83 c_83 Kr) : S83 [.agg (List.map RC.d (TCall.enc c_83))] (fun rv rows => ∃ r, rv = (.one (.d (.int .i64 r))) ∧ rows = [] ∧ Kr r) := ⟨c_83, Kr, rfl, h, fun r hr => ⟨r, rfl, rfl, hr⟩⟩

theorem ok83 : COK Try.prog 83 S83 := by
  refine cok83 fun args K0 hS => ?_
  obtain ⟨c_83, K, rfl, h, hK⟩ := hS
  refine ⟨by kernel_rfl, by simp, ?_⟩
  unfold W83 at h
  refine AW.sregL [(0, none), (1, none)] (by kernel_rfl) ?_
  refine l_det (some 1) (.one (.ref 1 1 0 0), [(1, 1, .row true 153 11 [[.d (.int .u8 c_83.parent), .d (.int .u8 c_83.clock), .d (.int .u8 c_83.kind), .d (.int .u8 c_83.service), .d (.int .u8 c_83.version), .d (.int .u8 c_83.operation), .d (.int .u8 c_83.wait), .d (.int .u8 c_83.long), .d (.int .u8 c_83.link), .d (.int .u8 c_83.tag), .d (.bool c_83.fail)]])]) (by kernel_rfl) ?_
  refine l_ds 2 (.one (.d (.int .i64 0))) ?_
  refine l_nil ?_
  refine AW.sregL [(0, none), (1, none), (2, none), (3, none), (4, none), (5, none)] (by kernel_rfl) ?_
  refine l_ds 3 (.one (.ref 1 1 0 2)) ?_
  refine l_ds 4 (.one (.d (.int .u8 c_83.kind))) ?_
  refine l_ds 5 (.one (.d (.int .u8 (Int.tmod c_83.kind 5)))) ?_
  refine l_ds 6 (.one (.d (.int .i64 (w64 (Int.tmod c_83.kind 5))))) ?_
  refine l_ds 7 (.one (.d (.int .i64 (w64 (1 + (w64 (Int.tmod c_83.kind 5))))))) ?_
  refine l_ds 2 (.one (.d (.int .i64 (w64 (1 + (w64 (Int.tmod c_83.kind 5))))))) ?_
  refine l_nil ?_
  refine AW.ret ?_
  exact q_end [.one (.d (.int .i64 (w64 (1 + (w64 (Int.tmod c_83.kind 5))))))] [false] [.one (.d (.int .i64 (w64 (1 + (w64 (Int.tmod c_83.kind 5))))))] [] [] (by kernel_rfl) ⟨by kernel_rfl, by kernel_rfl⟩ (by kernel_rfl) (by kernel_rfl) (by kernel_rfl) (by kernel_rfl) (Eq.mp (by kernel_rfl) (hK (w64 (1 + (w64 (Int.tmod c_83.kind 5)))) h)) (.inr rfl)
def r68_0 : List AR := [⟨some 1, .box 104 true 3 (.t 0), [], none⟩,
  ⟨some 2, .mov (.c .nils), [], none⟩,
  ⟨some 3, .mov (.c .nils), [1], none⟩]
def r68_1 : List AR := [⟨some 4, .mov (.c (.int .i64 0)), [], none⟩]
def r68_2 : List AR := [⟨some 10, .mov (.t 4), [], none⟩,
  ⟨some 11, .fad (.t 1) 2, [], none⟩,
  ⟨some 12, .ld false 1 (.t 11), [1], none⟩,
  ⟨some 13, .lens (.t 12), [2], none⟩,
  ⟨some 14, .bin .lss (.t 10) (.t 13), [0, 3], none⟩]
def r68_3 : List AR := [⟨some 17, .fad (.t 1) 2, [], none⟩,
  ⟨some 18, .ld false 1 (.t 17), [0], none⟩,
  ⟨some 19, .mov (.t 4), [], none⟩,
  ⟨some 20, .iad 11 (.t 18) (.t 19), [1, 2], none⟩,
  ⟨some 21, .ld true 11 (.t 20), [3], none⟩,
  ⟨some 5, .alloc 153 true [.int .u8 0, .int .u8 0, .int .u8 0, .int .u8 0, .int .u8 0, .int .u8 0, .int .u8 0, .int .u8 0, .int .u8 0, .int .u8 0, .bool false], [], none⟩,
  ⟨none, .st 11 (.t 5) (.t 21), [5, 4, 0, 1, 2, 3, 4, 5], none⟩]
def r68_4 : List AR := [⟨some 22, .fad (.t 1) 1, [], none⟩,
  ⟨some 23, .ld false 1 (.t 22), [0], none⟩,
  ⟨some 24, .bin .rem (.t 23) (.c (.int .u8 32)), [1], none⟩,
  ⟨some 25, .cvi .i64 (.t 24), [2], none⟩,
  ⟨some 26, .bin .add (.c (.int .i64 1000)) (.t 25), [3], none⟩,
  ⟨some 6, .mov (.t 26), [4, 0, 1, 2, 3, 4], none⟩]
def r68_5 : List AR := [⟨some 27, .fad (.t 5) 0, [], none⟩,
  ⟨some 28, .ld false 1 (.t 27), [0], none⟩,
  ⟨some 29, .cvi .i64 (.t 28), [1], none⟩,
  ⟨some 30, .mov (.t 4), [], none⟩,
  ⟨some 31, .bin .add (.t 30) (.c (.int .i64 1)), [3], none⟩,
  ⟨some 32, .bin .rem (.t 29) (.t 31), [2, 4], none⟩,
  ⟨some 7, .mov (.t 32), [5, 0, 1, 2, 3, 4, 5], none⟩]
def r68_6 : List AR := [⟨some 33, .mov (.t 7), [], none⟩,
  ⟨some 34, .mov (.t 4), [], none⟩,
  ⟨some 35, .bin .lss (.t 33) (.t 34), [0, 1], none⟩]
def r68_7 : List AR := [⟨some 36, .mov (.t 2), [], none⟩,
  ⟨some 37, .mov (.t 7), [], none⟩,
  ⟨some 38, .iad 1 (.t 36) (.t 37), [0, 1], none⟩,
  ⟨some 39, .ld false 1 (.t 38), [2], none⟩,
  ⟨some 6, .mov (.t 39), [3, 0, 1, 2, 3], none⟩]
def r68_8 : List AR := [⟨some 40, .mov (.t 4), [], none⟩,
  ⟨some 41, .bin .gtr (.t 40) (.c (.int .i64 0)), [0], none⟩]
def r68_9 : List AR := [⟨some 42, .mov (.t 6), [], none⟩,
  ⟨some 43, .fad (.t 5) 6, [], none⟩,
  ⟨some 44, .ld false 1 (.t 43), [1], none⟩,
  ⟨some 45, .bin .rem (.t 44) (.c (.int .u8 32)), [2], none⟩,
  ⟨some 46, .cvi .i64 (.t 45), [3], none⟩,
  ⟨some 47, .bin .add (.t 42) (.t 46), [0, 4], none⟩,
  ⟨some 6, .mov (.t 47), [5, 0, 1, 2, 3, 4, 5], none⟩]
def r68_10 : List AR := [⟨some 48, .mov (.t 2), [], none⟩,
  ⟨some 49, .mov (.t 6), [], none⟩,
  ⟨some 50, .bsl 3 1 1 [.int .i64 0] [(0, .t 49)], [1], none⟩,
  ⟨some 51, .app 3 1 8 [.int .i64 0] (.t 48) (.t 50), [0, 2], none⟩,
  ⟨some 52, .mov (.t 3), [], none⟩,
  ⟨some 53, .mov (.t 6), [], none⟩,
  ⟨some 54, .fad (.t 5) 7, [], none⟩,
  ⟨some 55, .ld false 1 (.t 54), [6], none⟩,
  ⟨some 56, .bin .rem (.t 55) (.c (.int .u8 32)), [7], none⟩,
  ⟨some 57, .cvi .i64 (.t 56), [8], none⟩,
  ⟨some 58, .bin .add (.t 53) (.t 57), [5, 9], none⟩,
  ⟨some 59, .bsl 3 1 1 [.int .i64 0] [(0, .t 58)], [10], none⟩,
  ⟨some 60, .app 3 1 8 [.int .i64 0] (.t 52) (.t 59), [4, 11, 3], none⟩,
  ⟨some 2, .mov (.t 51), [3, 12, 0, 1, 2, 3], none⟩,
  ⟨some 3, .mov (.t 60), [12, 13, 0, 1, 2, 3, 4, 5, 6, 7, 8, 9, 10, 11, 12, 13], none⟩]
def r68_11 : List AR := [⟨some 15, .mov (.t 4), [], none⟩,
  ⟨some 16, .bin .add (.t 15) (.c (.int .i64 1)), [0], none⟩,
  ⟨some 4, .mov (.t 16), [1, 0, 1], none⟩]
def r68_12 : List AR := [⟨some 61, .fad (.t 1) 2, [], none⟩,
  ⟨some 62, .ld false 1 (.t 61), [0], none⟩,
  ⟨some 63, .lens (.t 62), [1], none⟩,
  ⟨some 64, .bin .sub (.t 63) (.c (.int .i64 1)), [2], none⟩,
  ⟨some 8, .mov (.t 64), [3, 0, 1, 2, 3], none⟩]
def r68_13 : List AR := [⟨some 65, .mov (.t 8), [], none⟩,
  ⟨some 66, .bin .gtr (.t 65) (.c (.int .i64 0)), [0], none⟩]
def r68_14 : List AR := [⟨some 69, .fad (.t 1) 2, [], none⟩,
  ⟨some 70, .ld false 1 (.t 69), [0], none⟩,
  ⟨some 71, .mov (.t 8), [], none⟩,
  ⟨some 72, .iad 11 (.t 70) (.t 71), [1, 2], none⟩,
  ⟨some 73, .fad (.t 72) 0, [3], none⟩,
  ⟨some 74, .ld false 1 (.t 73), [4], none⟩,
  ⟨some 75, .cvi .i64 (.t 74), [5], none⟩,
  ⟨some 76, .mov (.t 8), [], none⟩,
  ⟨some 77, .bin .add (.t 76) (.c (.int .i64 1)), [7], none⟩,
  ⟨some 78, .bin .rem (.t 75) (.t 77), [6, 8], none⟩,
  ⟨some 9, .mov (.t 78), [9, 0, 1, 2, 3, 4, 5, 6, 7, 8, 9], none⟩]
def r68_15 : List AR := [⟨some 79, .mov (.t 9), [], none⟩,
  ⟨some 80, .mov (.t 8), [], none⟩,
  ⟨some 81, .bin .lss (.t 79) (.t 80), [0, 1], none⟩,
  ⟨some 82, .mov (.t 81), [2], none⟩,
  ⟨some 83, .fad (.t 1) 2, [3], some (82, true)⟩,
  ⟨some 84, .ld false 1 (.t 83), [4, 3], some (82, true)⟩,
  ⟨some 85, .mov (.t 8), [3], some (82, true)⟩,
  ⟨some 86, .iad 11 (.t 84) (.t 85), [5, 6, 3], some (82, true)⟩,
  ⟨some 87, .ld true 11 (.t 86), [7, 3], some (82, true)⟩,
  ⟨some 88, .call 83 [.t 87], [8, 3, 3], some (82, true)⟩,
  ⟨some 89, .bin .eql (.t 88) (.c (.int .i64 3)), [9, 3], some (82, true)⟩,
  ⟨some 90, .pick (.t 82) (.t 89) (.c (.bool false)), [3, 10], none⟩,
  ⟨some 91, .mov (.t 90), [11, 9], none⟩,
  ⟨some 92, .fad (.t 1) 2, [12], some (91, true)⟩,
  ⟨some 93, .ld false 1 (.t 92), [13, 12], some (91, true)⟩,
  ⟨some 94, .mov (.t 9), [12], some (91, true)⟩,
  ⟨some 95, .iad 11 (.t 93) (.t 94), [14, 15, 12], some (91, true)⟩,
  ⟨some 96, .ld true 11 (.t 95), [16, 12], some (91, true)⟩,
  ⟨some 97, .call 83 [.t 96], [17, 12, 12], some (91, true)⟩,
  ⟨some 98, .bin .eql (.t 97) (.c (.int .i64 2)), [18, 12], some (91, true)⟩,
  ⟨some 99, .pick (.t 91) (.t 98) (.c (.bool false)), [12, 19], none⟩,
  ⟨some 100, .mov (.t 99), [20, 18], none⟩,
  ⟨some 101, .fad (.t 1) 2, [21], some (100, true)⟩,
  ⟨some 102, .ld false 1 (.t 101), [22, 21], some (100, true)⟩,
  ⟨some 103, .mov (.t 9), [21], some (100, true)⟩,
  ⟨some 104, .iad 11 (.t 102) (.t 103), [23, 24, 21], some (100, true)⟩,
  ⟨some 105, .fad (.t 104) 10, [25, 21], some (100, true)⟩,
  ⟨some 106, .ld false 1 (.t 105), [26, 21], some (100, true)⟩,
  ⟨some 107, .un .not (.t 106), [27, 21], some (100, true)⟩,
  ⟨some 108, .pick (.t 100) (.t 107) (.c (.bool false)), [21, 28], none⟩]
def r68_16 : List AR := [⟨some 109, .mov (.t 3), [], none⟩,
  ⟨some 110, .mov (.t 9), [], none⟩,
  ⟨some 111, .mov (.t 3), [], none⟩,
  ⟨some 112, .mov (.t 9), [], none⟩,
  ⟨some 113, .iad 1 (.t 111) (.t 112), [2, 3], none⟩,
  ⟨some 114, .ld false 1 (.t 113), [4], none⟩,
  ⟨some 115, .mov (.t 3), [], none⟩,
  ⟨some 116, .mov (.t 8), [], none⟩,
  ⟨some 117, .iad 1 (.t 115) (.t 116), [6, 7], none⟩,
  ⟨some 118, .ld false 1 (.t 117), [8], none⟩,
  ⟨some 119, .mm true [.t 114, .t 118], [5, 9], none⟩,
  ⟨some 120, .iad 1 (.t 109) (.t 110), [0, 1, 0, 1, 2, 3, 4, 5, 6, 7, 8, 9, 10], none⟩,
  ⟨none, .st 1 (.t 120) (.t 119), [11, 10, 0, 1, 2, 3, 4, 5, 6, 7, 8, 9, 10], none⟩]
def r68_17 : List AR := [⟨some 67, .mov (.t 8), [], none⟩,
  ⟨some 68, .bin .sub (.t 67) (.c (.int .i64 1)), [0], none⟩,
  ⟨some 8, .mov (.t 68), [1, 0, 1], none⟩]
def r68_18 : List AR := [⟨some 121, .mov (.t 2), [], none⟩,
  ⟨some 122, .mov (.t 3), [], none⟩,
  ⟨some 2, .mov (.t 121), [0, 0], none⟩,
  ⟨some 3, .mov (.t 122), [1, 2, 0, 1, 2], none⟩]
def c68 : ACode := .seq (.reg r68_0 false) (.seq (.seq (.reg r68_1 false) (.blk 0 (.loop (.seq (.seq (.reg r68_2 false) (.cond (.t 14) (.skip) (.exit 0))) (.seq (.blk 1 (.seq (.reg r68_3 false) (.seq (.reg r68_4 false) (.seq (.seq (.reg r68_5 false) (.seq (.reg r68_6 false) (.cond (.t 35) (.reg r68_7 false) (.skip)))) (.seq (.seq (.reg r68_8 false) (.cond (.t 41) (.reg r68_9 false) (.skip))) (.reg r68_10 true)))))) (.reg r68_11 false)))))) (.seq (.seq (.reg r68_12 false) (.blk 2 (.loop (.seq (.seq (.reg r68_13 false) (.cond (.t 66) (.skip) (.exit 2))) (.seq (.blk 3 (.seq (.reg r68_14 false) (.seq (.reg r68_15 false) (.cond (.t 108) (.reg r68_16 true) (.skip))))) (.reg r68_17 false)))))) (.seq (.reg r68_18 false) (.ret))))
theorem body68 : Try.f68.body.map (comp Try.prog 123) = some c68 := by kernel_rfl
theorem res68 : allSome (Try.f68.results.toList.map (compRes Try.prog)) = some [.s 2, .s 3] := by kernel_rfl
theorem cok68 {S : FSpec} (h : ∀ args K, S args K → args.all argOk = true ∧ args.length ≤ 123 ∧ AW Try.prog 123 (some ownP) c68 (initS args) (retPost [.s 2, .s 3] args K)) : COK Try.prog 68 S := of_body Try.func68 Try.ntmps68 body68 res68 h

def J68_3 (v2453 : List Int) (v2454 : List Int) (x2479 : TCall) (N2470 : ((List Int) × (List Int) × Int) → Prop) (v2455 : Int) (v2483 : Int) : Prop :=
  Fits ((v2453 ++ [v2483]).length * 8) (Fits ((v2454 ++ [(w64 (v2483 + (w64 (Int.tmod x2479.long 32))))]).length * 8) (N2470 ((v2453 ++ [v2483]), (v2454 ++ [(w64 (v2483 + (w64 (Int.tmod x2479.long 32))))]), (w64 (v2455 + 1)))))

def J68_2 (v2455 : Int) (v2453 : List Int) (v2454 : List Int) (x2479 : TCall) (N2470 : ((List Int) × (List Int) × Int) → Prop) (v2482 : Int) : Prop :=
  Cond (decide (v2455 > 0)) (J68_3 v2453 v2454 x2479 N2470 v2455 (w64 (v2482 + (w64 (Int.tmod x2479.wait 32))))) (J68_3 v2453 v2454 x2479 N2470 v2455 v2482)

def J68_5 (N2705 : ((List Int) × Int) → Prop) (v2661 : Int) (v2734 : List Int) : Prop :=
  N2705 (v2734, (w64 (v2661 - 1)))

def J68_6 (v2660 : List Int) (x2736 : TCall) (v2661 : Int) (N2705 : ((List Int) × Int) → Prop) (v2743 : Bool) : Prop :=
  Cond v2743 (Idx v2660 (Int.tmod (w64 x2736.parent) (w64 (v2661 + 1))) fun x2744 => Idx v2660 v2661 fun x2745 => J68_5 N2705 v2661 (List.set v2660 ((Int.tmod (w64 x2736.parent) (w64 (v2661 + 1))).toNat) (if x2745 > x2744 then x2745 else x2744))) (J68_5 N2705 v2661 v2660)

def L68_4 (t_68 : TTree) (K : ((List Int) × (List Int)) → Prop) (v2453 : List Int) (v2660 : List Int) (v2661 : Int) (N2705 : ((List Int) × Int) → Prop) : Prop :=
  Cond (decide (v2661 > 0)) (Idx t_68.calls v2661 fun x2736 => (w64 (v2661 + 1)) ≠ 0 ∧ (Cond (decide ((Int.tmod (w64 x2736.parent) (w64 (v2661 + 1))) < v2661)) (W83 x2736 fun r2746 => Cond (decide (r2746 = 3)) (Idx t_68.calls (Int.tmod (w64 x2736.parent) (w64 (v2661 + 1))) fun x2747 => W83 x2747 fun r2748 => Cond (decide (r2748 = 2)) (J68_6 v2660 x2736 v2661 N2705 (!x2747.fail)) (J68_6 v2660 x2736 v2661 N2705 false)) (J68_6 v2660 x2736 v2661 N2705 false)) (J68_6 v2660 x2736 v2661 N2705 false))) (K (v2453, v2660))

def L68_1 (t_68 : TTree) (K : ((List Int) × (List Int)) → Prop) (v2453 : List Int) (v2454 : List Int) (v2455 : Int) (N2470 : ((List Int) × (List Int) × Int) → Prop) : Prop :=
  Cond (decide (v2455 < (t_68.calls.length : Int))) (Idx t_68.calls v2455 fun x2479 => (w64 (v2455 + 1)) ≠ 0 ∧ (Cond (decide ((Int.tmod (w64 x2479.parent) (w64 (v2455 + 1))) < v2455)) (Idx v2453 (Int.tmod (w64 x2479.parent) (w64 (v2455 + 1))) fun x2484 => J68_2 v2455 v2453 v2454 x2479 N2470 x2484) (J68_2 v2455 v2453 v2454 x2479 N2470 (w64 (1000 + (w64 (Int.tmod t_68.start 32))))))) (LoopW (fun (s : ((List Int) × Int)) N2705 => L68_4 t_68 K v2453 s.1 s.2 N2705) (v2454, (w64 ((t_68.calls.length : Int) - 1))))

/-- sleuth/sleuthlaw13.times -/
def W68 (t_68 : TTree) (K : ((List Int) × (List Int)) → Prop) : Prop :=
  LoopW (fun (s : ((List Int) × (List Int) × Int)) N2470 => L68_1 t_68 K s.1 s.2.1 s.2.2 N2470) ([], [], 0)

def S68 : FSpec := fun args K => ∃ (t_68 : TTree), ∃ (Kr : ((List Int) × (List Int)) → Prop), args = [.agg (List.map RC.d (TTree.enc t_68))] ∧ W68 t_68 Kr ∧ ∀ r, Kr r → K (.tup [.one (.d (.sl (List.map (eInt .i64) r.1))), .one (.d (.sl (List.map (eInt .i64) r.2)))]) []

theorem en68 : enters Try.prog 68 = true := by unfold enters; rw [Try.func68]; rfl
theorem cl68 (t_68 : TTree) {Kr : ((List Int) × (List Int)) → Prop} (h : W68 t_68 Kr) : S68 [.agg (List.map RC.d (TTree.enc t_68))] (fun rv rows => ∃ r, rv = (.tup [.one (.d (.sl (List.map (eInt .i64) r.1))), .one (.d (.sl (List.map (eInt .i64) r.2)))]) ∧ rows = [] ∧ Kr r) := ⟨t_68, Kr, rfl, h, fun r hr => ⟨r, rfl, rfl, hr⟩⟩

theorem ok68 : COK Try.prog 68 S68 := by
  refine cok68 fun args K0 hS => ?_
  obtain ⟨t_68, K, rfl, h, hK⟩ := hS
  refine ⟨by kernel_rfl, by simp, ?_⟩
  unfold W68 at h
  refine AW.sregL [(0, none), (1, none), (2, none)] (by kernel_rfl) ?_
  refine l_det (some 1) (.one (.ref 1 1 0 0), [(1, 1, .row true 104 3 [[.d (.int .u8 t_68.slot), .d (.int .u8 t_68.start), .d (.sl (List.map TCall.enc t_68.calls))]])]) (by kernel_rfl) ?_
  refine l_ds 2 (.one (.nils)) ?_
  refine l_ds 3 (.one (.nils)) ?_
  refine l_nil ?_
  refine AW.seq ?_
  refine AW.sregL [(0, none)] (by kernel_rfl) ?_
  refine l_ds 4 (.one (.d (.int .i64 0))) ?_
  refine l_nil ?_
  refine AW.blk ?_
  refine AW.loopL (S := ((List Int) × (List Int) × Int)) (fun s => (fun (v2453 : List Int) (v2454 : List Int) (v2455 : Int) => [(1, .one (.ref 200001 0 0 0)), (2, .one (.view 200002 0 0 ((List.map (eInt .i64) v2453).length))), (3, .one (.view 200003 0 0 ((List.map (eInt .i64) v2454).length))), (4, .one (.d (.int .i64 v2455)))]) s.1 s.2.1 s.2.2) (fun s => (fun (v2453 : List Int) (v2454 : List Int) (v2455 : Int) => [(200001, .expl true 104 3 [[.d (.int .u8 t_68.slot), .d (.int .u8 t_68.start), .d (.sl (List.map TCall.enc t_68.calls))]]), (200002, .pure true 3 1 (List.map (eInt .i64) v2453)), (200003, .pure true 3 1 (List.map (eInt .i64) v2454))]) s.1 s.2.1 s.2.2) (fun (s : ((List Int) × (List Int) × Int)) N2470 => L68_1 t_68 K s.1 s.2.1 s.2.2 N2470) (N := fun s => LoopW (fun (s : ((List Int) × (List Int) × Int)) N2470 => L68_1 t_68 K s.1 s.2.1 s.2.2 N2470) s) (Lab.m ([], [], 0) [(200001, some 1), (200002, none), (200003, none)] h) (fun _ h => h) ?_
  rintro ⟨v2453, v2454, v2455⟩ N2470 h
  have h : L68_1 t_68 K v2453 v2454 v2455 N2470 := h
  unfold L68_1 at h
  refine AW.seq ?_
  refine AW.sregL [(0, none), (1, none), (2, none), (3, none), (4, none)] (by kernel_rfl) ?_
  refine l_ds 10 (.one (.d (.int .i64 v2455))) ?_
  refine l_ds 11 (.one (.ref 200001 0 0 2)) ?_
  refine l_ds 12 (.one (.d (.sl (List.map TCall.enc t_68.calls)))) ?_
  refine l_spec (some 13) (.lens (.t 12)) (.one (.d (.int .i64 (t_68.calls.length : Int))), []) (by kernel_rfl) (detA_none (d_lens_sl (enc := TCall.enc) t_68.calls (by kernel_rfl))) ?_
  refine l_ds 14 (.one (.d (.bool (decide (v2455 < (t_68.calls.length : Int)))))) ?_
  refine l_nil ?_
  refine AW.cond' (by kernel_rfl) h (fun h => ?_) (fun h => ?_)
  · refine AW.skip ?_
    refine q_fall ?_
    refine AW.seq ?_
    refine AW.blk ?_
    refine AW.sregL [(0, none), (1, none), (2, none), (3, none), (4, none), (5, none), (6, none)] (by kernel_rfl) ?_
    refine l_ds 17 (.one (.ref 200001 0 0 2)) ?_
    refine l_ds 18 (.one (.d (.sl (List.map TCall.enc t_68.calls)))) ?_
    refine l_ds 19 (.one (.d (.int .i64 v2455))) ?_
    obtain ⟨h153, x2479, h154, h⟩ := h
    refine l_spec (some 20) (.iad 11 (.t 18) (.t 19)) (.one (.d (.ptr [.int .u8 x2479.parent, .int .u8 x2479.clock, .int .u8 x2479.kind, .int .u8 x2479.service, .int .u8 x2479.version, .int .u8 x2479.operation, .int .u8 x2479.wait, .int .u8 x2479.long, .int .u8 x2479.link, .int .u8 x2479.tag, .bool x2479.fail])), []) (by kernel_rfl) (detA_none (d_iad_sl (enc := TCall.enc) (k := .i64) t_68.calls x2479 (by kernel_rfl) (by kernel_rfl) h153 h154 rfl)) ?_
    refine l_ds 21 (.agg [.d (.int .u8 x2479.parent), .d (.int .u8 x2479.clock), .d (.int .u8 x2479.kind), .d (.int .u8 x2479.service), .d (.int .u8 x2479.version), .d (.int .u8 x2479.operation), .d (.int .u8 x2479.wait), .d (.int .u8 x2479.long), .d (.int .u8 x2479.link), .d (.int .u8 x2479.tag), .d (.bool x2479.fail)]) ?_
    refine l_det (some 5) (.one (.ref 5 1 0 0), [(5, 1, .row true 153 11 [[.d (.int .u8 0), .d (.int .u8 0), .d (.int .u8 0), .d (.int .u8 0), .d (.int .u8 0), .d (.int .u8 0), .d (.int .u8 0), .d (.int .u8 0), .d (.int .u8 0), .d (.int .u8 0), .d (.bool false)]])]) (by kernel_rfl) ?_
    refine l_det none (.tup [], [(5, 1, .row true 153 11 [[.d (.int .u8 x2479.parent), .d (.int .u8 x2479.clock), .d (.int .u8 x2479.kind), .d (.int .u8 x2479.service), .d (.int .u8 x2479.version), .d (.int .u8 x2479.operation), .d (.int .u8 x2479.wait), .d (.int .u8 x2479.long), .d (.int .u8 x2479.link), .d (.int .u8 x2479.tag), .d (.bool x2479.fail)]])]) (by kernel_rfl) ?_
    refine l_nil ?_
    refine AW.sregL [(0, none), (1, none), (2, none), (3, none), (4, none), (5, none)] (by kernel_rfl) ?_
    refine l_ds 22 (.one (.ref 200001 0 0 1)) ?_
    refine l_ds 23 (.one (.d (.int .u8 t_68.start))) ?_
    refine l_ds 24 (.one (.d (.int .u8 (Int.tmod t_68.start 32)))) ?_
    refine l_ds 25 (.one (.d (.int .i64 (w64 (Int.tmod t_68.start 32))))) ?_
    refine l_ds 26 (.one (.d (.int .i64 (w64 (1000 + (w64 (Int.tmod t_68.start 32))))))) ?_
    refine l_ds 6 (.one (.d (.int .i64 (w64 (1000 + (w64 (Int.tmod t_68.start 32))))))) ?_
    refine l_nil ?_
    refine AW.seqL (S := Int) (fun s => (fun (v2482 : Int) => [(1, .one (.ref 200001 0 0 0)), (2, .one (.view 200002 0 0 ((List.map (eInt .i64) v2453).length))), (3, .one (.view 200003 0 0 ((List.map (eInt .i64) v2454).length))), (4, .one (.d (.int .i64 v2455))), (5, .one (.ref 200004 0 0 0)), (6, .one (.d (.int .i64 v2482)))]) s) (fun s => (fun (v2482 : Int) => [(200001, .expl true 104 3 [[.d (.int .u8 t_68.slot), .d (.int .u8 t_68.start), .d (.sl (List.map TCall.enc t_68.calls))]]), (200002, .pure true 3 1 (List.map (eInt .i64) v2453)), (200003, .pure true 3 1 (List.map (eInt .i64) v2454)), (200004, .expl true 153 11 [[.d (.int .u8 x2479.parent), .d (.int .u8 x2479.clock), .d (.int .u8 x2479.kind), .d (.int .u8 x2479.service), .d (.int .u8 x2479.version), .d (.int .u8 x2479.operation), .d (.int .u8 x2479.wait), .d (.int .u8 x2479.long), .d (.int .u8 x2479.link), .d (.int .u8 x2479.tag), .d (.bool x2479.fail)]])]) s) (fun s : Int => J68_2 v2455 v2453 v2454 x2479 N2470 s) ?_ ?_
    · refine AW.sregL [(0, none), (1, none), (2, none), (3, none), (4, none), (5, none), (6, none)] (by kernel_rfl) ?_
      refine l_ds 27 (.one (.ref 5 1 0 0)) ?_
      refine l_ds 28 (.one (.d (.int .u8 x2479.parent))) ?_
      refine l_ds 29 (.one (.d (.int .i64 (w64 x2479.parent)))) ?_
      refine l_ds 30 (.one (.d (.int .i64 v2455))) ?_
      refine l_ds 31 (.one (.d (.int .i64 (w64 (v2455 + 1))))) ?_
      obtain ⟨h166, h⟩ := h
      refine l_spec (some 32) (.bin .rem (.t 29) (.t 31)) (.one (.d (.int .i64 (Int.tmod (w64 x2479.parent) (w64 (v2455 + 1))))), []) (by kernel_rfl) (detA_none (d_rem (w64 x2479.parent) (w64 (v2455 + 1)) (by kernel_rfl) (by kernel_rfl) h166)) ?_
      refine l_ds 7 (.one (.d (.int .i64 (Int.tmod (w64 x2479.parent) (w64 (v2455 + 1)))))) ?_
      refine l_nil ?_
      refine AW.sregL [(0, none), (1, none), (2, none)] (by kernel_rfl) ?_
      refine l_ds 33 (.one (.d (.int .i64 (Int.tmod (w64 x2479.parent) (w64 (v2455 + 1)))))) ?_
      refine l_ds 34 (.one (.d (.int .i64 v2455))) ?_
      refine l_ds 35 (.one (.d (.bool (decide ((Int.tmod (w64 x2479.parent) (w64 (v2455 + 1))) < v2455))))) ?_
      refine l_nil ?_
      refine AW.cond' (by kernel_rfl) h (fun h => ?_) (fun h => ?_)
      · refine AW.regL [(0, none), (1, none), (2, none), (3, none), (4, none)] (by kernel_rfl) ?_
        refine l_ds 36 (.one (.view 200002 0 0 ((List.map (eInt .i64) v2453).length))) ?_
        refine l_ds 37 (.one (.d (.int .i64 (Int.tmod (w64 x2479.parent) (w64 (v2455 + 1)))))) ?_
        obtain ⟨h167, x2484, h168, h⟩ := h
        refine l_spec (some 38) (.iad 1 (.t 36) (.t 37)) (.one (.ref 200002 0 ((Int.tmod (w64 x2479.parent) (w64 (v2455 + 1))).toNat) 0), []) (by kernel_rfl) (detA_none (d_iad_v (enc := (eInt .i64)) (k := .i64) (E := 3) (l := true) (ys := dmm (List.map (eInt .i64) v2453)) v2453 x2484 (by kernel_rfl) (by kernel_rfl) (by kernel_rfl) (by kernel_rfl) h167 h168)) ?_
        refine l_spec (some 39) (.ld false 1 (.t 38)) (.one (.d (.int .i64 x2484)), []) (by kernel_rfl) (detA_none (d_ld_row (enc := (eInt .i64)) (o := 200002) (g := 0) (i := ((Int.tmod (w64 x2479.parent) (w64 (v2455 + 1))).toNat)) (off := 0) (E := 3) (sz := 1) (l := true) v2453 x2484 (by kernel_rfl) (by kernel_rfl) (by kernel_rfl) h168 (by kernel_rfl))) ?_
        refine l_ds 6 (.one (.d (.int .i64 x2484))) ?_
        refine l_nil ?_
        refine q_fall ?_
        exact Lab.m x2484 [(200001, some 200001), (200002, some 200002), (200003, some 200003), (200004, some 5)] h
      · refine AW.skip ?_
        refine q_fall ?_
        exact Lab.m (w64 (1000 + (w64 (Int.tmod t_68.start 32)))) [(200001, some 200001), (200002, some 200002), (200003, some 200003), (200004, some 5)] h
    · rintro v2482 h
      have h : J68_2 v2455 v2453 v2454 x2479 N2470 v2482 := h
      unfold J68_2 at h
      refine AW.seqL (S := Int) (fun s => (fun (v2483 : Int) => [(1, .one (.ref 200001 0 0 0)), (2, .one (.view 200002 0 0 ((List.map (eInt .i64) v2453).length))), (3, .one (.view 200003 0 0 ((List.map (eInt .i64) v2454).length))), (4, .one (.d (.int .i64 v2455))), (5, .one (.ref 200004 0 0 0)), (6, .one (.d (.int .i64 v2483)))]) s) (fun s => (fun (v2483 : Int) => [(200001, .expl true 104 3 [[.d (.int .u8 t_68.slot), .d (.int .u8 t_68.start), .d (.sl (List.map TCall.enc t_68.calls))]]), (200002, .pure true 3 1 (List.map (eInt .i64) v2453)), (200003, .pure true 3 1 (List.map (eInt .i64) v2454)), (200004, .expl true 153 11 [[.d (.int .u8 x2479.parent), .d (.int .u8 x2479.clock), .d (.int .u8 x2479.kind), .d (.int .u8 x2479.service), .d (.int .u8 x2479.version), .d (.int .u8 x2479.operation), .d (.int .u8 x2479.wait), .d (.int .u8 x2479.long), .d (.int .u8 x2479.link), .d (.int .u8 x2479.tag), .d (.bool x2479.fail)]])]) s) (fun s : Int => J68_3 v2453 v2454 x2479 N2470 v2455 s) ?_ ?_
      · refine AW.sregL [(0, none), (1, none)] (by kernel_rfl) ?_
        refine l_ds 40 (.one (.d (.int .i64 v2455))) ?_
        refine l_ds 41 (.one (.d (.bool (decide (v2455 > 0))))) ?_
        refine l_nil ?_
        refine AW.cond' (by kernel_rfl) h (fun h => ?_) (fun h => ?_)
        · refine AW.regL [(0, none), (1, none), (2, none), (3, none), (4, none), (5, none), (6, none)] (by kernel_rfl) ?_
          refine l_ds 42 (.one (.d (.int .i64 v2482))) ?_
          refine l_ds 43 (.one (.ref 200004 0 0 6)) ?_
          refine l_ds 44 (.one (.d (.int .u8 x2479.wait))) ?_
          refine l_ds 45 (.one (.d (.int .u8 (Int.tmod x2479.wait 32)))) ?_
          refine l_ds 46 (.one (.d (.int .i64 (w64 (Int.tmod x2479.wait 32))))) ?_
          refine l_ds 47 (.one (.d (.int .i64 (w64 (v2482 + (w64 (Int.tmod x2479.wait 32))))))) ?_
          refine l_ds 6 (.one (.d (.int .i64 (w64 (v2482 + (w64 (Int.tmod x2479.wait 32))))))) ?_
          refine l_nil ?_
          refine q_fall ?_
          exact Lab.m (w64 (v2482 + (w64 (Int.tmod x2479.wait 32)))) [(200001, some 200001), (200002, some 200002), (200003, some 200003), (200004, some 200004)] h
        · refine AW.skip ?_
          refine q_fall ?_
          exact Lab.m v2482 [(200001, some 200001), (200002, some 200002), (200003, some 200003), (200004, some 200004)] h
      · rintro v2483 h
        have h : J68_3 v2453 v2454 x2479 N2470 v2455 v2483 := h
        unfold J68_3 at h
        refine AW.regdL follows_mixed [[], [], [1], [0, 1, 2], [], [], [], [6], [6, 7], [6, 7, 8], [5, 6, 7, 8, 9], [5, 6, 7, 8, 9, 10], [0, 1, 2, 3, 4, 5, 6, 7, 8, 9, 10, 11], [0, 1, 2, 3, 4, 5, 6, 7, 8, 9, 10, 11, 12], [0, 1, 2, 3, 4, 5, 6, 7, 8, 9, 10, 11, 12, 13]] [(0, none), (1, none), (4, none), (5, none), (6, none), (7, some [55, 1000005, 1200004]), (8, none), (9, none), (10, none), (2, some [50]), (3, some [51, 200002, 1000050]), (11, some [59]), (12, none), (13, none), (14, none)] (by kernel_rfl) ?_
        refine l_ds 48 (.one (.view 200002 0 0 ((List.map (eInt .i64) v2453).length))) ?_
        refine l_ds 49 (.one (.d (.int .i64 v2483))) ?_
        refine l_ds 52 (.one (.view 200003 0 0 ((List.map (eInt .i64) v2454).length))) ?_
        refine l_ds 53 (.one (.d (.int .i64 v2483))) ?_
        refine l_ds 54 (.one (.ref 200004 0 0 7)) ?_
        refine l_ds 55 (.one (.d (.int .u8 x2479.long))) ?_
        refine l_ds 56 (.one (.d (.int .u8 (Int.tmod x2479.long 32)))) ?_
        refine l_ds 57 (.one (.d (.int .i64 (w64 (Int.tmod x2479.long 32))))) ?_
        refine l_ds 58 (.one (.d (.int .i64 (w64 (v2483 + (w64 (Int.tmod x2479.long 32))))))) ?_
        refine l_det (some 50) (.one (.view 50 1 0 1), [(50, 1, .row true 3 1 [[.d (.int .i64 v2483)]])]) (by kernel_rfl) ?_
        obtain ⟨h163, h⟩ := h
        refine l_spec (some 51) (.app 3 1 8 [.int .i64 0] (.t 48) (.t 50)) (.one (.view 200002 1 0 ((List.map (eInt .i64) (v2453 ++ [v2483])).length)), [(200002, 1, .row true 3 1 (dmm (List.map (eInt .i64) (v2453 ++ [v2483]))))]) (by kernel_rfl) (detA_some (d_app_v (enc := (eInt .i64)) (xc := .view 50 1 0 1) v2453 [v2483] (by kernel_rfl) (by kernel_rfl) (by kernel_rfl) (by kernel_rfl) (by kernel_rfl) h163 (by kernel_rfl)) (by kernel_rfl)) ?_
        refine l_det (some 59) (.one (.view 59 1 0 1), [(59, 1, .row true 3 1 [[.d (.int .i64 (w64 (v2483 + (w64 (Int.tmod x2479.long 32)))))]])]) (by kernel_rfl) ?_
        obtain ⟨h164, h⟩ := h
        refine l_spec (some 60) (.app 3 1 8 [.int .i64 0] (.t 52) (.t 59)) (.one (.view 200003 1 0 ((List.map (eInt .i64) (v2454 ++ [(w64 (v2483 + (w64 (Int.tmod x2479.long 32))))])).length)), [(200003, 1, .row true 3 1 (dmm (List.map (eInt .i64) (v2454 ++ [(w64 (v2483 + (w64 (Int.tmod x2479.long 32))))]))))]) (by kernel_rfl) (detA_none (d_app_v (enc := (eInt .i64)) (xc := .view 59 1 0 1) v2454 [(w64 (v2483 + (w64 (Int.tmod x2479.long 32))))] (by kernel_rfl) (by kernel_rfl) (by kernel_rfl) (by kernel_rfl) (by kernel_rfl) h164 (by kernel_rfl))) ?_
        refine l_ds 2 (.one (.view 200002 1 0 ((List.map (eInt .i64) (v2453 ++ [v2483])).length))) ?_
        refine l_ds 3 (.one (.view 200003 1 0 ((List.map (eInt .i64) (v2454 ++ [(w64 (v2483 + (w64 (Int.tmod x2479.long 32))))])).length))) ?_
        refine l_nil ?_
        refine q_bfall ?_
        refine q_fall ?_
        refine AW.regL [(0, none), (1, none), (2, none)] (by kernel_rfl) ?_
        refine l_ds 15 (.one (.d (.int .i64 v2455))) ?_
        refine l_ds 16 (.one (.d (.int .i64 (w64 (v2455 + 1))))) ?_
        refine l_ds 4 (.one (.d (.int .i64 (w64 (v2455 + 1))))) ?_
        refine l_nil ?_
        refine q_fall ?_
        exact Lab.m ((v2453 ++ [v2483]), (v2454 ++ [(w64 (v2483 + (w64 (Int.tmod x2479.long 32))))]), (w64 (v2455 + 1))) [(200001, some 200001), (200002, some 200002), (200003, some 200003)] h
  · refine AW.exit ?_
    refine q_exit ?_
    refine q_exit ?_
    refine q_bhere ?_
    refine q_fall ?_
    refine AW.seq ?_
    refine AW.sregL [(0, none), (1, none), (2, none), (3, none), (4, none)] (by kernel_rfl) ?_
    refine l_ds 61 (.one (.ref 200001 0 0 2)) ?_
    refine l_ds 62 (.one (.d (.sl (List.map TCall.enc t_68.calls)))) ?_
    refine l_spec (some 63) (.lens (.t 62)) (.one (.d (.int .i64 (t_68.calls.length : Int))), []) (by kernel_rfl) (detA_none (d_lens_sl (enc := TCall.enc) t_68.calls (by kernel_rfl))) ?_
    refine l_ds 64 (.one (.d (.int .i64 (w64 ((t_68.calls.length : Int) - 1))))) ?_
    refine l_ds 8 (.one (.d (.int .i64 (w64 ((t_68.calls.length : Int) - 1))))) ?_
    refine l_nil ?_
    refine AW.blk ?_
    refine AW.loopL (S := ((List Int) × Int)) (fun s => (fun (v2660 : List Int) (v2661 : Int) => [(1, .one (.ref 200001 0 0 0)), (2, .one (.view 200002 0 0 ((List.map (eInt .i64) v2453).length))), (3, .one (.view 200003 0 0 ((List.map (eInt .i64) v2660).length))), (8, .one (.d (.int .i64 v2661)))]) s.1 s.2) (fun s => (fun (v2660 : List Int) (v2661 : Int) => [(200001, .expl true 104 3 [[.d (.int .u8 t_68.slot), .d (.int .u8 t_68.start), .d (.sl (List.map TCall.enc t_68.calls))]]), (200002, .pure true 3 1 (List.map (eInt .i64) v2453)), (200003, .pure true 3 1 (List.map (eInt .i64) v2660))]) s.1 s.2) (fun (s : ((List Int) × Int)) N2705 => L68_4 t_68 K v2453 s.1 s.2 N2705) (N := fun s => LoopW (fun (s : ((List Int) × Int)) N2705 => L68_4 t_68 K v2453 s.1 s.2 N2705) s) (Lab.m (v2454, (w64 ((t_68.calls.length : Int) - 1))) [(200001, some 200001), (200002, some 200002), (200003, some 200003)] h) (fun _ h => h) ?_
    rintro ⟨v2660, v2661⟩ N2705 h
    have h : L68_4 t_68 K v2453 v2660 v2661 N2705 := h
    unfold L68_4 at h
    refine AW.seq ?_
    refine AW.sregL [(0, none), (1, none)] (by kernel_rfl) ?_
    refine l_ds 65 (.one (.d (.int .i64 v2661))) ?_
    refine l_ds 66 (.one (.d (.bool (decide (v2661 > 0))))) ?_
    refine l_nil ?_
    refine AW.cond' (by kernel_rfl) h (fun h => ?_) (fun h => ?_)
    · refine AW.skip ?_
      refine q_fall ?_
      refine AW.seqL (S := (List Int)) (fun s => (fun (v2734 : List Int) => [(1, .one (.ref 200001 0 0 0)), (2, .one (.view 200002 0 0 ((List.map (eInt .i64) v2453).length))), (3, .one (.view 200003 0 0 ((List.map (eInt .i64) v2734).length))), (8, .one (.d (.int .i64 v2661)))]) s) (fun s => (fun (v2734 : List Int) => [(200001, .expl true 104 3 [[.d (.int .u8 t_68.slot), .d (.int .u8 t_68.start), .d (.sl (List.map TCall.enc t_68.calls))]]), (200002, .pure true 3 1 (List.map (eInt .i64) v2453)), (200003, .pure true 3 1 (List.map (eInt .i64) v2734))]) s) (fun s : (List Int) => J68_5 N2705 v2661 s) ?_ ?_
      · refine AW.blk ?_
        refine AW.sregL [(0, none), (1, none), (2, none), (3, none), (4, none), (5, none), (6, none), (7, none), (8, none), (9, none), (10, none)] (by kernel_rfl) ?_
        refine l_ds 69 (.one (.ref 200001 0 0 2)) ?_
        refine l_ds 70 (.one (.d (.sl (List.map TCall.enc t_68.calls)))) ?_
        refine l_ds 71 (.one (.d (.int .i64 v2661))) ?_
        obtain ⟨h563, x2736, h564, h⟩ := h
        refine l_spec (some 72) (.iad 11 (.t 70) (.t 71)) (.one (.d (.ptr [.int .u8 x2736.parent, .int .u8 x2736.clock, .int .u8 x2736.kind, .int .u8 x2736.service, .int .u8 x2736.version, .int .u8 x2736.operation, .int .u8 x2736.wait, .int .u8 x2736.long, .int .u8 x2736.link, .int .u8 x2736.tag, .bool x2736.fail])), []) (by kernel_rfl) (detA_none (d_iad_sl (enc := TCall.enc) (k := .i64) t_68.calls x2736 (by kernel_rfl) (by kernel_rfl) h563 h564 rfl)) ?_
        refine l_ds 73 (.one (.d (.ptr [.int .u8 x2736.parent, .int .u8 x2736.clock, .int .u8 x2736.kind, .int .u8 x2736.service, .int .u8 x2736.version, .int .u8 x2736.operation, .int .u8 x2736.wait, .int .u8 x2736.long, .int .u8 x2736.link, .int .u8 x2736.tag, .bool x2736.fail]))) ?_
        refine l_ds 74 (.one (.d (.int .u8 x2736.parent))) ?_
        refine l_ds 75 (.one (.d (.int .i64 (w64 x2736.parent)))) ?_
        refine l_ds 76 (.one (.d (.int .i64 v2661))) ?_
        refine l_ds 77 (.one (.d (.int .i64 (w64 (v2661 + 1))))) ?_
        obtain ⟨h565, h⟩ := h
        refine l_spec (some 78) (.bin .rem (.t 75) (.t 77)) (.one (.d (.int .i64 (Int.tmod (w64 x2736.parent) (w64 (v2661 + 1))))), []) (by kernel_rfl) (detA_none (d_rem (w64 x2736.parent) (w64 (v2661 + 1)) (by kernel_rfl) (by kernel_rfl) h565)) ?_
        refine l_ds 9 (.one (.d (.int .i64 (Int.tmod (w64 x2736.parent) (w64 (v2661 + 1)))))) ?_
        refine l_nil ?_
        refine AW.seqL (S := Bool) (fun s => (fun (v2743 : Bool) => [(1, .one (.ref 200001 0 0 0)), (2, .one (.view 200002 0 0 ((List.map (eInt .i64) v2453).length))), (3, .one (.view 200003 0 0 ((List.map (eInt .i64) v2660).length))), (8, .one (.d (.int .i64 v2661))), (9, .one (.d (.int .i64 (Int.tmod (w64 x2736.parent) (w64 (v2661 + 1)))))), (108, .one (.d (.bool v2743)))]) s) (fun s => (fun (v2743 : Bool) => [(200001, .expl true 104 3 [[.d (.int .u8 t_68.slot), .d (.int .u8 t_68.start), .d (.sl (List.map TCall.enc t_68.calls))]]), (200002, .pure true 3 1 (List.map (eInt .i64) v2453)), (200003, .pure true 3 1 (List.map (eInt .i64) v2660))]) s) (fun s : Bool => J68_6 v2660 x2736 v2661 N2705 s) ?_ ?_
        · refine AW.regL [(0, none), (1, none), (2, none), (3, none), (4, none), (5, none), (6, none), (7, none), (8, none), (9, none), (10, none), (11, none), (12, none), (13, none), (14, none), (15, none), (16, none), (17, none), (18, none), (19, none), (20, none), (21, none), (22, none), (23, none), (24, none), (25, none), (26, none), (27, none), (28, none), (29, none)] (by kernel_rfl) ?_
          refine l_ds 79 (.one (.d (.int .i64 (Int.tmod (w64 x2736.parent) (w64 (v2661 + 1)))))) ?_
          refine l_ds 80 (.one (.d (.int .i64 v2661))) ?_
          refine l_ds 81 (.one (.d (.bool (decide ((Int.tmod (w64 x2736.parent) (w64 (v2661 + 1))) < v2661))))) ?_
          refine l_ds 82 (.one (.d (.bool (decide ((Int.tmod (w64 x2736.parent) (w64 (v2661 + 1))) < v2661))))) ?_
          refine l_split (s := 82) (by kernel_rfl) h (fun h => ?_) (fun h => ?_)
          · refine l_ds 83 (.one (.ref 200001 0 0 2)) ?_
            refine l_ds 84 (.one (.d (.sl (List.map TCall.enc t_68.calls)))) ?_
            refine l_ds 85 (.one (.d (.int .i64 v2661))) ?_
            refine l_spec (some 86) (.iad 11 (.t 84) (.t 85)) (.one (.d (.ptr [.int .u8 x2736.parent, .int .u8 x2736.clock, .int .u8 x2736.kind, .int .u8 x2736.service, .int .u8 x2736.version, .int .u8 x2736.operation, .int .u8 x2736.wait, .int .u8 x2736.long, .int .u8 x2736.link, .int .u8 x2736.tag, .bool x2736.fail])), []) (by kernel_rfl) (detA_none (d_iad_sl (enc := TCall.enc) (k := .i64) t_68.calls x2736 (by kernel_rfl) (by kernel_rfl) h563 h564 rfl)) ?_
            refine l_ds 87 (.agg [.d (.int .u8 x2736.parent), .d (.int .u8 x2736.clock), .d (.int .u8 x2736.kind), .d (.int .u8 x2736.service), .d (.int .u8 x2736.version), .d (.int .u8 x2736.operation), .d (.int .u8 x2736.wait), .d (.int .u8 x2736.long), .d (.int .u8 x2736.link), .d (.int .u8 x2736.tag), .d (.bool x2736.fail)]) ?_
            refine l_call ok83 en83 (some 88) [.agg [.d (.int .u8 x2736.parent), .d (.int .u8 x2736.clock), .d (.int .u8 x2736.kind), .d (.int .u8 x2736.service), .d (.int .u8 x2736.version), .d (.int .u8 x2736.operation), .d (.int .u8 x2736.wait), .d (.int .u8 x2736.long), .d (.int .u8 x2736.link), .d (.int .u8 x2736.tag), .d (.bool x2736.fail)]] [false] [.agg (List.map RC.d [.int .u8 x2736.parent, .int .u8 x2736.clock, .int .u8 x2736.kind, .int .u8 x2736.service, .int .u8 x2736.version, .int .u8 x2736.operation, .int .u8 x2736.wait, .int .u8 x2736.long, .int .u8 x2736.link, .int .u8 x2736.tag, .bool x2736.fail])] [] (by kernel_rfl) ⟨by kernel_rfl, by kernel_rfl⟩ (by kernel_rfl) (by kernel_rfl) (by kernel_rfl) (cl83 x2736 h) ?_
            rintro hR _ _ ⟨r2746, rfl, rfl, h⟩
            refine ⟨false, (.one (.d (.int .i64 r2746)), []), (fun hz => (by cases hz)), (ret_R hR (by kernel_rfl)), ?_⟩
            refine l_ds 89 (.one (.d (.bool (decide (r2746 = 3))))) ?_
            refine l_ds 90 (.one (.d (.bool (decide (r2746 = 3))))) ?_
            refine l_ds 91 (.one (.d (.bool (decide (r2746 = 3))))) ?_
            refine l_split (s := 91) (by kernel_rfl) h (fun h => ?_) (fun h => ?_)
            · refine l_ds 92 (.one (.ref 200001 0 0 2)) ?_
              refine l_ds 93 (.one (.d (.sl (List.map TCall.enc t_68.calls)))) ?_
              refine l_ds 94 (.one (.d (.int .i64 (Int.tmod (w64 x2736.parent) (w64 (v2661 + 1)))))) ?_
              obtain ⟨h580, x2747, h581, h⟩ := h
              refine l_spec (some 95) (.iad 11 (.t 93) (.t 94)) (.one (.d (.ptr [.int .u8 x2747.parent, .int .u8 x2747.clock, .int .u8 x2747.kind, .int .u8 x2747.service, .int .u8 x2747.version, .int .u8 x2747.operation, .int .u8 x2747.wait, .int .u8 x2747.long, .int .u8 x2747.link, .int .u8 x2747.tag, .bool x2747.fail])), []) (by kernel_rfl) (detA_none (d_iad_sl (enc := TCall.enc) (k := .i64) t_68.calls x2747 (by kernel_rfl) (by kernel_rfl) h580 h581 rfl)) ?_
              refine l_ds 96 (.agg [.d (.int .u8 x2747.parent), .d (.int .u8 x2747.clock), .d (.int .u8 x2747.kind), .d (.int .u8 x2747.service), .d (.int .u8 x2747.version), .d (.int .u8 x2747.operation), .d (.int .u8 x2747.wait), .d (.int .u8 x2747.long), .d (.int .u8 x2747.link), .d (.int .u8 x2747.tag), .d (.bool x2747.fail)]) ?_
              refine l_call ok83 en83 (some 97) [.agg [.d (.int .u8 x2747.parent), .d (.int .u8 x2747.clock), .d (.int .u8 x2747.kind), .d (.int .u8 x2747.service), .d (.int .u8 x2747.version), .d (.int .u8 x2747.operation), .d (.int .u8 x2747.wait), .d (.int .u8 x2747.long), .d (.int .u8 x2747.link), .d (.int .u8 x2747.tag), .d (.bool x2747.fail)]] [false] [.agg (List.map RC.d [.int .u8 x2747.parent, .int .u8 x2747.clock, .int .u8 x2747.kind, .int .u8 x2747.service, .int .u8 x2747.version, .int .u8 x2747.operation, .int .u8 x2747.wait, .int .u8 x2747.long, .int .u8 x2747.link, .int .u8 x2747.tag, .bool x2747.fail])] [] (by kernel_rfl) ⟨by kernel_rfl, by kernel_rfl⟩ (by kernel_rfl) (by kernel_rfl) (by kernel_rfl) (cl83 x2747 h) ?_
              rintro hR _ _ ⟨r2748, rfl, rfl, h⟩
              refine ⟨false, (.one (.d (.int .i64 r2748)), []), (fun hz => (by cases hz)), (ret_R hR (by kernel_rfl)), ?_⟩
              refine l_ds 98 (.one (.d (.bool (decide (r2748 = 2))))) ?_
              refine l_ds 99 (.one (.d (.bool (decide (r2748 = 2))))) ?_
              refine l_ds 100 (.one (.d (.bool (decide (r2748 = 2))))) ?_
              refine l_split (s := 100) (by kernel_rfl) h (fun h => ?_) (fun h => ?_)
              · refine l_ds 101 (.one (.ref 200001 0 0 2)) ?_
                refine l_ds 102 (.one (.d (.sl (List.map TCall.enc t_68.calls)))) ?_
                refine l_ds 103 (.one (.d (.int .i64 (Int.tmod (w64 x2736.parent) (w64 (v2661 + 1)))))) ?_
                refine l_spec (some 104) (.iad 11 (.t 102) (.t 103)) (.one (.d (.ptr [.int .u8 x2747.parent, .int .u8 x2747.clock, .int .u8 x2747.kind, .int .u8 x2747.service, .int .u8 x2747.version, .int .u8 x2747.operation, .int .u8 x2747.wait, .int .u8 x2747.long, .int .u8 x2747.link, .int .u8 x2747.tag, .bool x2747.fail])), []) (by kernel_rfl) (detA_none (d_iad_sl (enc := TCall.enc) (k := .i64) t_68.calls x2747 (by kernel_rfl) (by kernel_rfl) h580 h581 rfl)) ?_
                refine l_ds 105 (.one (.d (.ptr [.bool x2747.fail]))) ?_
                refine l_ds 106 (.one (.d (.bool x2747.fail))) ?_
                refine l_ds 107 (.one (.d (.bool (!x2747.fail)))) ?_
                refine l_ds 108 (.one (.d (.bool (!x2747.fail)))) ?_
                refine l_nil ?_
                refine q_fall ?_
                exact Lab.m (!x2747.fail) [(200001, some 200001), (200002, some 200002), (200003, some 200003)] h
              · refine l_ds 101 (.tup []) ?_
                refine l_ds 102 (.tup []) ?_
                refine l_ds 103 (.tup []) ?_
                refine l_ds 104 (.tup []) ?_
                refine l_ds 105 (.tup []) ?_
                refine l_ds 106 (.tup []) ?_
                refine l_ds 107 (.tup []) ?_
                refine l_ds 108 (.one (.d (.bool false))) ?_
                refine l_nil ?_
                refine q_fall ?_
                exact Lab.m false [(200001, some 200001), (200002, some 200002), (200003, some 200003)] h
            · refine l_ds 92 (.tup []) ?_
              refine l_ds 93 (.tup []) ?_
              refine l_ds 94 (.tup []) ?_
              refine l_ds 95 (.tup []) ?_
              refine l_ds 96 (.tup []) ?_
              refine l_skip (some 97) (by kernel_rfl) (by kernel_rfl) (by kernel_rfl) ?_
              refine l_ds 98 (.tup []) ?_
              refine l_ds 99 (.one (.d (.bool false))) ?_
              refine l_ds 100 (.one (.d (.bool false))) ?_
              refine l_ds 101 (.tup []) ?_
              refine l_ds 102 (.tup []) ?_
              refine l_ds 103 (.tup []) ?_
              refine l_ds 104 (.tup []) ?_
              refine l_ds 105 (.tup []) ?_
              refine l_ds 106 (.tup []) ?_
              refine l_ds 107 (.tup []) ?_
              refine l_ds 108 (.one (.d (.bool false))) ?_
              refine l_nil ?_
              refine q_fall ?_
              exact Lab.m false [(200001, some 200001), (200002, some 200002), (200003, some 200003)] h
          · refine l_ds 83 (.tup []) ?_
            refine l_ds 84 (.tup []) ?_
            refine l_ds 85 (.tup []) ?_
            refine l_ds 86 (.tup []) ?_
            refine l_ds 87 (.tup []) ?_
            refine l_skip (some 88) (by kernel_rfl) (by kernel_rfl) (by kernel_rfl) ?_
            refine l_ds 89 (.tup []) ?_
            refine l_ds 90 (.one (.d (.bool false))) ?_
            refine l_ds 91 (.one (.d (.bool false))) ?_
            refine l_ds 92 (.tup []) ?_
            refine l_ds 93 (.tup []) ?_
            refine l_ds 94 (.tup []) ?_
            refine l_ds 95 (.tup []) ?_
            refine l_ds 96 (.tup []) ?_
            refine l_skip (some 97) (by kernel_rfl) (by kernel_rfl) (by kernel_rfl) ?_
            refine l_ds 98 (.tup []) ?_
            refine l_ds 99 (.one (.d (.bool false))) ?_
            refine l_ds 100 (.one (.d (.bool false))) ?_
            refine l_ds 101 (.tup []) ?_
            refine l_ds 102 (.tup []) ?_
            refine l_ds 103 (.tup []) ?_
            refine l_ds 104 (.tup []) ?_
            refine l_ds 105 (.tup []) ?_
            refine l_ds 106 (.tup []) ?_
            refine l_ds 107 (.tup []) ?_
            refine l_ds 108 (.one (.d (.bool false))) ?_
            refine l_nil ?_
            refine q_fall ?_
            exact Lab.m false [(200001, some 200001), (200002, some 200002), (200003, some 200003)] h
        · rintro v2743 h
          have h : J68_6 v2660 x2736 v2661 N2705 v2743 := h
          unfold J68_6 at h
          refine AW.cond' (by kernel_rfl) h (fun h => ?_) (fun h => ?_)
          · refine AW.regdL follows_mixed [[], [], [], [], [2, 3], [2, 3, 4], [], [], [6, 7], [6, 7, 8], [2, 3, 4, 5, 6, 7, 8, 9], [0, 1, 2, 3, 4, 5, 6, 7, 8, 9, 10], [0, 1, 2, 3, 4, 5, 6, 7, 8, 9, 10, 11]] [(0, none), (1, none), (2, none), (3, none), (4, none), (5, none), (6, none), (7, none), (8, none), (9, none), (10, none), (11, none), (12, none)] (by kernel_rfl) ?_
            refine l_ds 109 (.one (.view 200003 0 0 ((List.map (eInt .i64) v2660).length))) ?_
            refine l_ds 110 (.one (.d (.int .i64 (Int.tmod (w64 x2736.parent) (w64 (v2661 + 1)))))) ?_
            refine l_ds 111 (.one (.view 200003 0 0 ((List.map (eInt .i64) v2660).length))) ?_
            refine l_ds 112 (.one (.d (.int .i64 (Int.tmod (w64 x2736.parent) (w64 (v2661 + 1)))))) ?_
            obtain ⟨h574, x2744, h575, h⟩ := h
            refine l_spec (some 113) (.iad 1 (.t 111) (.t 112)) (.one (.ref 200003 0 ((Int.tmod (w64 x2736.parent) (w64 (v2661 + 1))).toNat) 0), []) (by kernel_rfl) (detA_none (d_iad_v (enc := (eInt .i64)) (k := .i64) (E := 3) (l := true) (ys := dmm (List.map (eInt .i64) v2660)) v2660 x2744 (by kernel_rfl) (by kernel_rfl) (by kernel_rfl) (by kernel_rfl) h574 h575)) ?_
            refine l_spec (some 114) (.ld false 1 (.t 113)) (.one (.d (.int .i64 x2744)), []) (by kernel_rfl) (detA_none (d_ld_row (enc := (eInt .i64)) (o := 200003) (g := 0) (i := ((Int.tmod (w64 x2736.parent) (w64 (v2661 + 1))).toNat)) (off := 0) (E := 3) (sz := 1) (l := true) v2660 x2744 (by kernel_rfl) (by kernel_rfl) (by kernel_rfl) h575 (by kernel_rfl))) ?_
            refine l_ds 115 (.one (.view 200003 0 0 ((List.map (eInt .i64) v2660).length))) ?_
            refine l_ds 116 (.one (.d (.int .i64 v2661))) ?_
            obtain ⟨h576, x2745, h577, h⟩ := h
            refine l_spec (some 117) (.iad 1 (.t 115) (.t 116)) (.one (.ref 200003 0 v2661.toNat 0), []) (by kernel_rfl) (detA_none (d_iad_v (enc := (eInt .i64)) (k := .i64) (E := 3) (l := true) (ys := dmm (List.map (eInt .i64) v2660)) v2660 x2745 (by kernel_rfl) (by kernel_rfl) (by kernel_rfl) (by kernel_rfl) h576 h577)) ?_
            refine l_spec (some 118) (.ld false 1 (.t 117)) (.one (.d (.int .i64 x2745)), []) (by kernel_rfl) (detA_none (d_ld_row (enc := (eInt .i64)) (o := 200003) (g := 0) (i := v2661.toNat) (off := 0) (E := 3) (sz := 1) (l := true) v2660 x2745 (by kernel_rfl) (by kernel_rfl) (by kernel_rfl) h577 (by kernel_rfl))) ?_
            refine l_ds 119 (.one (.d (.int .i64 (if x2745 > x2744 then x2745 else x2744)))) ?_
            refine l_spec (some 120) (.iad 1 (.t 109) (.t 110)) (.one (.ref 200003 0 ((Int.tmod (w64 x2736.parent) (w64 (v2661 + 1))).toNat) 0), []) (by kernel_rfl) (detA_none (d_iad_v (enc := (eInt .i64)) (k := .i64) (E := 3) (l := true) (ys := dmm (List.map (eInt .i64) v2660)) v2660 x2744 (by kernel_rfl) (by kernel_rfl) (by kernel_rfl) (by kernel_rfl) h574 h575)) ?_
            have h578 := set_get (if x2745 > x2744 then x2745 else x2744) h575
            refine l_spec none (.st 1 (.t 120) (.t 119)) (.tup [], [(200003, 0, .row true 3 1 (dmm (List.map (eInt .i64) (List.set v2660 ((Int.tmod (w64 x2736.parent) (w64 (v2661 + 1))).toNat) (if x2745 > x2744 then x2745 else x2744)))))]) (by kernel_rfl) (detA_none (d_st_row (enc := (eInt .i64)) (i := ((Int.tmod (w64 x2736.parent) (w64 (v2661 + 1))).toNat)) (off := 0) (vs := [.d (.int .i64 (if x2745 > x2744 then x2745 else x2744))]) v2660 x2744 (if x2745 > x2744 then x2745 else x2744) (by kernel_rfl) (by kernel_rfl) (by kernel_rfl) h575 (by kernel_rfl) (by kernel_rfl) (by kernel_rfl))) ?_
            refine l_renorm 3 (.one (.view 200003 0 0 ((List.map (eInt .i64) (List.set v2660 ((Int.tmod (w64 x2736.parent) (w64 (v2661 + 1))).toNat) (if x2745 > x2744 then x2745 else x2744))).length))) (Eq.trans (b := .one (.view 200003 0 0 ((List.map (eInt .i64) v2660).length))) (by kernel_rfl) (by simp only [List.length_map, List.length_set, List.length_cons, List.length_nil])) ?_
            refine l_nil ?_
            refine q_bfall ?_
            refine q_fall ?_
            exact Lab.m (List.set v2660 ((Int.tmod (w64 x2736.parent) (w64 (v2661 + 1))).toNat) (if x2745 > x2744 then x2745 else x2744)) [(200001, some 200001), (200002, some 200002), (200003, some 200003)] h
          · refine AW.skip ?_
            refine q_bfall ?_
            refine q_fall ?_
            exact Lab.m v2660 [(200001, some 200001), (200002, some 200002), (200003, some 200003)] h
      · rintro v2734 h
        have h : J68_5 N2705 v2661 v2734 := h
        unfold J68_5 at h
        refine AW.regL [(0, none), (1, none), (2, none)] (by kernel_rfl) ?_
        refine l_ds 67 (.one (.d (.int .i64 v2661))) ?_
        refine l_ds 68 (.one (.d (.int .i64 (w64 (v2661 - 1))))) ?_
        refine l_ds 8 (.one (.d (.int .i64 (w64 (v2661 - 1))))) ?_
        refine l_nil ?_
        refine q_fall ?_
        exact Lab.m (v2734, (w64 (v2661 - 1))) [(200001, some 200001), (200002, some 200002), (200003, some 200003)] h
    · refine AW.exit ?_
      refine q_exit ?_
      refine q_exit ?_
      refine q_bhere ?_
      refine q_fall ?_
      refine AW.sregL [(0, none), (1, none), (2, none), (3, none)] (by kernel_rfl) ?_
      refine l_ds 121 (.one (.view 200002 0 0 ((List.map (eInt .i64) v2453).length))) ?_
      refine l_ds 122 (.one (.view 200003 0 0 ((List.map (eInt .i64) v2660).length))) ?_
      refine l_ds 2 (.one (.view 200002 0 0 ((List.map (eInt .i64) v2453).length))) ?_
      refine l_ds 3 (.one (.view 200003 0 0 ((List.map (eInt .i64) v2660).length))) ?_
      refine l_nil ?_
      refine AW.ret ?_
      exact q_end [.one (.view 200002 0 0 ((List.map (eInt .i64) v2453).length)), .one (.view 200003 0 0 ((List.map (eInt .i64) v2660).length))] [false, false] [.one (.d (.sl (List.map (eInt .i64) v2453))), .one (.d (.sl (List.map (eInt .i64) v2660)))] [] [200002, 200003] (by kernel_rfl) (ps_plain (pv_one (pf_view (E := 3) (sz := 1) (l := true) (List.map (eInt .i64) v2453) (by kernel_rfl) (by kernel_rfl) rfl)) (ps_plain (pv_one (pf_view (E := 3) (sz := 1) (l := true) (List.map (eInt .i64) v2660) (by kernel_rfl) (by kernel_rfl) rfl)) ps_nil)) (by kernel_rfl) (by kernel_rfl) (by kernel_rfl) (by kernel_rfl) (Eq.mp (by kernel_rfl) (hK (v2453, v2660) h)) (.inr rfl)
def r84_0 : List AR := [⟨some 1, .box 153 true 11 (.t 0), [], none⟩,
  ⟨some 2, .mov (.c .nils), [], none⟩]
def r84_1 : List AR := [⟨some 4, .fad (.t 1) 9, [], none⟩,
  ⟨some 5, .ld false 1 (.t 4), [0], none⟩,
  ⟨some 6, .bin .quo (.t 5) (.c (.int .u8 4)), [1], none⟩,
  ⟨some 7, .bin .rem (.t 6) (.c (.int .u8 2)), [2], none⟩,
  ⟨some 8, .cvi .i64 (.t 7), [3], none⟩,
  ⟨some 9, .bld [.int .i64 0, .str ⟨#[]⟩, .int .i64 0] [(0, 1, .c (.int .i64 3)), (2, 1, .t 8)], [4], none⟩,
  ⟨some 10, .bld [.str ⟨#[]⟩, .int .i64 0, .str ⟨#[]⟩, .int .i64 0] [(0, 1, .c (.str ⟨#[111, 107]⟩)), (1, 3, .t 9)], [5], none⟩,
  ⟨some 11, .fad (.t 1) 9, [], none⟩,
  ⟨some 12, .ld false 1 (.t 11), [7], none⟩,
  ⟨some 13, .cvi .i64 (.t 12), [8], none⟩,
  ⟨some 14, .bin .sub (.t 13) (.c (.int .i64 100)), [9], none⟩,
  ⟨some 15, .bld [.int .i64 0, .str ⟨#[]⟩, .int .i64 0] [(0, 1, .c (.int .i64 2)), (2, 1, .t 14)], [10], none⟩,
  ⟨some 16, .bld [.str ⟨#[]⟩, .int .i64 0, .str ⟨#[]⟩, .int .i64 0] [(0, 1, .c (.str ⟨#[115, 105, 122, 101]⟩)), (1, 3, .t 15)], [11], none⟩,
  ⟨some 17, .bsl 9 1 3 [.str ⟨#[]⟩] [(0, .c (.str ⟨#[97]⟩)), (1, .c (.str ⟨#[98]⟩)), (2, .c (.str ⟨#[119, 101, 115, 116, 32, 49]⟩))], [], none⟩,
  ⟨some 18, .fad (.t 1) 9, [], none⟩,
  ⟨some 19, .ld false 1 (.t 18), [14], none⟩,
  ⟨some 20, .bin .quo (.t 19) (.c (.int .u8 8)), [15], none⟩,
  ⟨some 21, .bin .rem (.t 20) (.c (.int .u8 3)), [16], none⟩,
  ⟨some 22, .iad 1 (.t 17) (.t 21), [13, 17], none⟩,
  ⟨some 23, .ld false 1 (.t 22), [18], none⟩,
  ⟨some 24, .bld [.int .i64 0, .str ⟨#[]⟩, .int .i64 0] [(0, 1, .c (.int .i64 1)), (1, 1, .t 23)], [19], none⟩,
  ⟨some 25, .bld [.str ⟨#[]⟩, .int .i64 0, .str ⟨#[]⟩, .int .i64 0] [(0, 1, .c (.str ⟨#[122, 111, 110, 101]⟩)), (1, 3, .t 24)], [20], none⟩,
  ⟨some 26, .bsl 141 4 3 [.str ⟨#[]⟩, .int .i64 0, .str ⟨#[]⟩, .int .i64 0] [(0, .t 10), (1, .t 16), (2, .t 25)], [6, 12, 21], none⟩,
  ⟨some 3, .mov (.t 26), [22, 0, 1, 2, 3, 4, 5, 6, 7, 8, 9, 10, 11, 12, 13, 14, 15, 16, 17, 18, 19, 20, 21, 22], none⟩]
def r84_2 : List AR := [⟨some 27, .mov (.t 3), [], none⟩,
  ⟨some 28, .fad (.t 1) 9, [], none⟩,
  ⟨some 29, .ld false 1 (.t 28), [1], none⟩,
  ⟨some 30, .bin .rem (.t 29) (.c (.int .u8 4)), [2], none⟩,
  ⟨some 31, .slc 4 (.t 27) none (some (.t 30)) none, [0, 3], none⟩,
  ⟨some 2, .mov (.t 31), [4, 0, 1, 2, 3, 4], none⟩]
def c84 : ACode := .seq (.reg r84_0 false) (.seq (.reg r84_1 true) (.seq (.reg r84_2 false) (.ret)))
theorem body84 : Try.f84.body.map (comp Try.prog 32) = some c84 := by kernel_rfl
theorem res84 : allSome (Try.f84.results.toList.map (compRes Try.prog)) = some [.s 2] := by kernel_rfl
theorem cok84 {S : FSpec} (h : ∀ args K, S args K → args.all argOk = true ∧ args.length ≤ 32 ∧ AW Try.prog 32 (some ownP) c84 (initS args) (retPost [.s 2] args K)) : COK Try.prog 84 S := of_body Try.func84 Try.ntmps84 body84 res84 h

/-- sleuth/sleuthlaw13.attrs -/
def W84 (c_84 : TCall) (K : (List TAttr) → Prop) : Prop :=
  Idx [(⟨#[97]⟩ : ByteArray), (⟨#[98]⟩ : ByteArray), (⟨#[119, 101, 115, 116, 32, 49]⟩ : ByteArray)] (Int.tmod (IntKind.wrap .u8 (Int.tdiv c_84.tag 8)) 3) fun x2781 => 0 ≤ (Int.tmod c_84.tag 4) ∧ (Int.tmod c_84.tag 4) ≤ ([(TAttr.mk (⟨#[111, 107]⟩ : ByteArray) (TValue.mk 3 (⟨#[]⟩ : ByteArray) (w64 (Int.tmod (IntKind.wrap .u8 (Int.tdiv c_84.tag 4)) 2)))), (TAttr.mk (⟨#[115, 105, 122, 101]⟩ : ByteArray) (TValue.mk 2 (⟨#[]⟩ : ByteArray) (w64 ((w64 c_84.tag) - 100)))), (TAttr.mk (⟨#[122, 111, 110, 101]⟩ : ByteArray) (TValue.mk 1 x2781 0))].length : Int) ∧ (K (List.take ((Int.tmod c_84.tag 4).toNat - 0) (List.drop 0 [(TAttr.mk (⟨#[111, 107]⟩ : ByteArray) (TValue.mk 3 (⟨#[]⟩ : ByteArray) (w64 (Int.tmod (IntKind.wrap .u8 (Int.tdiv c_84.tag 4)) 2)))), (TAttr.mk (⟨#[115, 105, 122, 101]⟩ : ByteArray) (TValue.mk 2 (⟨#[]⟩ : ByteArray) (w64 ((w64 c_84.tag) - 100)))), (TAttr.mk (⟨#[122, 111, 110, 101]⟩ : ByteArray) (TValue.mk 1 x2781 0))])))

def S84 : FSpec := fun args K => ∃ (c_84 : TCall), ∃ (Kr : (List TAttr) → Prop), args = [.agg (List.map RC.d (TCall.enc c_84))] ∧ W84 c_84 Kr ∧ ∀ r, Kr r → K (.one (.d (.sl (List.map TAttr.enc r)))) []

theorem en84 : enters Try.prog 84 = true := by unfold enters; rw [Try.func84]; rfl
theorem cl84 (c_84 : TCall) {Kr : (List TAttr) → Prop} (h : W84 c_84 Kr) : S84 [.agg (List.map RC.d (TCall.enc c_84))] (fun rv rows => ∃ r, rv = (.one (.d (.sl (List.map TAttr.enc r)))) ∧ rows = [] ∧ Kr r) := ⟨c_84, Kr, rfl, h, fun r hr => ⟨r, rfl, rfl, hr⟩⟩

theorem ok84 : COK Try.prog 84 S84 := by
  refine cok84 fun args K0 hS => ?_
  obtain ⟨c_84, K, rfl, h, hK⟩ := hS
  refine ⟨by kernel_rfl, by simp, ?_⟩
  unfold W84 at h
  refine AW.sregL [(0, none), (1, none)] (by kernel_rfl) ?_
  refine l_det (some 1) (.one (.ref 1 1 0 0), [(1, 1, .row true 153 11 [[.d (.int .u8 c_84.parent), .d (.int .u8 c_84.clock), .d (.int .u8 c_84.kind), .d (.int .u8 c_84.service), .d (.int .u8 c_84.version), .d (.int .u8 c_84.operation), .d (.int .u8 c_84.wait), .d (.int .u8 c_84.long), .d (.int .u8 c_84.link), .d (.int .u8 c_84.tag), .d (.bool c_84.fail)]])]) (by kernel_rfl) ?_
  refine l_ds 2 (.one (.nils)) ?_
  refine l_nil ?_
  refine AW.sregdL follows_mixed [[], [0], [0, 1], [0, 1, 2], [0, 1, 2, 3], [0, 1, 2, 3, 4], [0, 1, 2, 3, 4, 5], [], [7], [7, 8], [7, 8, 9], [7, 8, 9, 10], [7, 8, 9, 10, 11], [], [], [14], [14, 15], [14, 15, 16], [13, 14, 15, 16, 17], [13, 14, 15, 16, 17, 18], [13, 14, 15, 16, 17, 18, 19], [13, 14, 15, 16, 17, 18, 19, 20], [0, 1, 2, 3, 4, 5, 6, 7, 8, 9, 10, 11, 12, 13, 14, 15, 16, 17, 18, 19, 20, 21], [0, 1, 2, 3, 4, 5, 6, 7, 8, 9, 10, 11, 12, 13, 14, 15, 16, 17, 18, 19, 20, 21, 22]] [(0, none), (1, some [5, 1000001]), (2, none), (3, none), (4, none), (5, none), (6, none), (7, none), (8, some [12, 1000001]), (9, none), (10, none), (11, none), (12, none), (14, none), (15, some [19, 1000001]), (16, none), (17, none), (13, some [17]), (18, none), (19, none), (20, none), (21, none), (22, none), (23, none)] (by kernel_rfl) ?_
  refine l_ds 4 (.one (.ref 1 1 0 9)) ?_
  refine l_ds 5 (.one (.d (.int .u8 c_84.tag))) ?_
  refine l_ds 6 (.one (.d (.int .u8 (IntKind.wrap .u8 (Int.tdiv c_84.tag 4))))) ?_
  refine l_ds 7 (.one (.d (.int .u8 (Int.tmod (IntKind.wrap .u8 (Int.tdiv c_84.tag 4)) 2)))) ?_
  refine l_ds 8 (.one (.d (.int .i64 (w64 (Int.tmod (IntKind.wrap .u8 (Int.tdiv c_84.tag 4)) 2))))) ?_
  refine l_ds 9 (.agg [.d (.int .i64 3), .d (.str (⟨#[]⟩ : ByteArray)), .d (.int .i64 (w64 (Int.tmod (IntKind.wrap .u8 (Int.tdiv c_84.tag 4)) 2)))]) ?_
  refine l_ds 10 (.agg [.d (.str (⟨#[111, 107]⟩ : ByteArray)), .d (.int .i64 3), .d (.str (⟨#[]⟩ : ByteArray)), .d (.int .i64 (w64 (Int.tmod (IntKind.wrap .u8 (Int.tdiv c_84.tag 4)) 2)))]) ?_
  refine l_ds 11 (.one (.ref 1 1 0 9)) ?_
  refine l_ds 12 (.one (.d (.int .u8 c_84.tag))) ?_
  refine l_ds 13 (.one (.d (.int .i64 (w64 c_84.tag)))) ?_
  refine l_ds 14 (.one (.d (.int .i64 (w64 ((w64 c_84.tag) - 100))))) ?_
  refine l_ds 15 (.agg [.d (.int .i64 2), .d (.str (⟨#[]⟩ : ByteArray)), .d (.int .i64 (w64 ((w64 c_84.tag) - 100)))]) ?_
  refine l_ds 16 (.agg [.d (.str (⟨#[115, 105, 122, 101]⟩ : ByteArray)), .d (.int .i64 2), .d (.str (⟨#[]⟩ : ByteArray)), .d (.int .i64 (w64 ((w64 c_84.tag) - 100)))]) ?_
  refine l_ds 18 (.one (.ref 1 1 0 9)) ?_
  refine l_ds 19 (.one (.d (.int .u8 c_84.tag))) ?_
  refine l_ds 20 (.one (.d (.int .u8 (IntKind.wrap .u8 (Int.tdiv c_84.tag 8))))) ?_
  refine l_ds 21 (.one (.d (.int .u8 (Int.tmod (IntKind.wrap .u8 (Int.tdiv c_84.tag 8)) 3)))) ?_
  refine l_det (some 17) (.one (.view 17 1 0 3), [(17, 1, .row true 9 1 [[.d (.str (⟨#[97]⟩ : ByteArray))], [.d (.str (⟨#[98]⟩ : ByteArray))], [.d (.str (⟨#[119, 101, 115, 116, 32, 49]⟩ : ByteArray))]])]) (by kernel_rfl) ?_
  obtain ⟨h3, x2781, h4, h⟩ := h
  refine l_spec (some 22) (.iad 1 (.t 17) (.t 21)) (.one (.ref 17 1 ((Int.tmod (IntKind.wrap .u8 (Int.tdiv c_84.tag 8)) 3).toNat) 0), []) (by kernel_rfl) (detA_none (d_iad_v (enc := eStr) (k := .u8) (E := 9) (l := true) (ys := dmm (List.map eStr [(⟨#[97]⟩ : ByteArray), (⟨#[98]⟩ : ByteArray), (⟨#[119, 101, 115, 116, 32, 49]⟩ : ByteArray)])) [(⟨#[97]⟩ : ByteArray), (⟨#[98]⟩ : ByteArray), (⟨#[119, 101, 115, 116, 32, 49]⟩ : ByteArray)] x2781 (by kernel_rfl) (by kernel_rfl) (by kernel_rfl) (by kernel_rfl) h3 h4)) ?_
  refine l_spec (some 23) (.ld false 1 (.t 22)) (.one (.d (.str x2781)), []) (by kernel_rfl) (detA_none (d_ld_row (enc := eStr) (o := 17) (g := 1) (i := ((Int.tmod (IntKind.wrap .u8 (Int.tdiv c_84.tag 8)) 3).toNat)) (off := 0) (E := 9) (sz := 1) (l := true) [(⟨#[97]⟩ : ByteArray), (⟨#[98]⟩ : ByteArray), (⟨#[119, 101, 115, 116, 32, 49]⟩ : ByteArray)] x2781 (by kernel_rfl) (by kernel_rfl) (by kernel_rfl) h4 (by kernel_rfl))) ?_
  refine l_ds 24 (.agg [.d (.int .i64 1), .d (.str x2781), .d (.int .i64 0)]) ?_
  refine l_ds 25 (.agg [.d (.str (⟨#[122, 111, 110, 101]⟩ : ByteArray)), .d (.int .i64 1), .d (.str x2781), .d (.int .i64 0)]) ?_
  refine l_det (some 26) (.one (.view 26 1 0 3), [(26, 1, .row true 141 4 [[.d (.str (⟨#[111, 107]⟩ : ByteArray)), .d (.int .i64 3), .d (.str (⟨#[]⟩ : ByteArray)), .d (.int .i64 (w64 (Int.tmod (IntKind.wrap .u8 (Int.tdiv c_84.tag 4)) 2)))], [.d (.str (⟨#[115, 105, 122, 101]⟩ : ByteArray)), .d (.int .i64 2), .d (.str (⟨#[]⟩ : ByteArray)), .d (.int .i64 (w64 ((w64 c_84.tag) - 100)))], [.d (.str (⟨#[122, 111, 110, 101]⟩ : ByteArray)), .d (.int .i64 1), .d (.str x2781), .d (.int .i64 0)]])]) (by kernel_rfl) ?_
  refine l_ds 3 (.one (.view 26 1 0 3)) ?_
  refine l_nil ?_
  refine AW.sregL [(0, none), (1, none), (2, none), (3, none), (4, none), (5, none)] (by kernel_rfl) ?_
  refine l_ds 27 (.one (.view 26 1 0 3)) ?_
  refine l_ds 28 (.one (.ref 1 1 0 9)) ?_
  refine l_ds 29 (.one (.d (.int .u8 c_84.tag))) ?_
  refine l_ds 30 (.one (.d (.int .u8 (Int.tmod c_84.tag 4)))) ?_
  obtain ⟨h8, h9, h⟩ := h
  refine l_spec (some 31) (.slc 4 (.t 27) none (some (.t 30)) none) (.one (.view 26 1 0 ((Int.tmod c_84.tag 4).toNat - 0)), []) (by kernel_rfl) (detA_none (d_slc_vf (enc := TAttr.enc) (E := 141) (l := true) (ys := dmm (List.map TAttr.enc [(TAttr.mk (⟨#[111, 107]⟩ : ByteArray) (TValue.mk 3 (⟨#[]⟩ : ByteArray) (w64 (Int.tmod (IntKind.wrap .u8 (Int.tdiv c_84.tag 4)) 2)))), (TAttr.mk (⟨#[115, 105, 122, 101]⟩ : ByteArray) (TValue.mk 2 (⟨#[]⟩ : ByteArray) (w64 ((w64 c_84.tag) - 100)))), (TAttr.mk (⟨#[122, 111, 110, 101]⟩ : ByteArray) (TValue.mk 1 x2781 0))])) (lo' := none) (hi' := (some (Int.tmod c_84.tag 4))) [(TAttr.mk (⟨#[111, 107]⟩ : ByteArray) (TValue.mk 3 (⟨#[]⟩ : ByteArray) (w64 (Int.tmod (IntKind.wrap .u8 (Int.tdiv c_84.tag 4)) 2)))), (TAttr.mk (⟨#[115, 105, 122, 101]⟩ : ByteArray) (TValue.mk 2 (⟨#[]⟩ : ByteArray) (w64 ((w64 c_84.tag) - 100)))), (TAttr.mk (⟨#[122, 111, 110, 101]⟩ : ByteArray) (TValue.mk 1 x2781 0))] (by kernel_rfl) (by kernel_rfl) (by kernel_rfl) (by kernel_rfl) (by kernel_rfl) (b_hi h8 h9))) ?_
  refine l_ds 2 (.one (.view 26 1 0 ((Int.tmod c_84.tag 4).toNat - 0))) ?_
  refine l_nil ?_
  refine AW.ret ?_
  exact q_end [.one (.view 26 1 0 ((Int.tmod c_84.tag 4).toNat - 0))] [false] [.one (.d (.sl (List.map TAttr.enc (List.take ((Int.tmod c_84.tag 4).toNat - 0) (List.drop 0 [(TAttr.mk (⟨#[111, 107]⟩ : ByteArray) (TValue.mk 3 (⟨#[]⟩ : ByteArray) (w64 (Int.tmod (IntKind.wrap .u8 (Int.tdiv c_84.tag 4)) 2)))), (TAttr.mk (⟨#[115, 105, 122, 101]⟩ : ByteArray) (TValue.mk 2 (⟨#[]⟩ : ByteArray) (w64 ((w64 c_84.tag) - 100)))), (TAttr.mk (⟨#[122, 111, 110, 101]⟩ : ByteArray) (TValue.mk 1 x2781 0))])))))] [] [26] (by kernel_rfl) (ps_plain (pv_one (pf_part (enc := TAttr.enc) (E := 141) (sz := 4) (l := true) [(TAttr.mk (⟨#[111, 107]⟩ : ByteArray) (TValue.mk 3 (⟨#[]⟩ : ByteArray) (w64 (Int.tmod (IntKind.wrap .u8 (Int.tdiv c_84.tag 4)) 2)))), (TAttr.mk (⟨#[115, 105, 122, 101]⟩ : ByteArray) (TValue.mk 2 (⟨#[]⟩ : ByteArray) (w64 ((w64 c_84.tag) - 100)))), (TAttr.mk (⟨#[122, 111, 110, 101]⟩ : ByteArray) (TValue.mk 1 x2781 0))] (by kernel_rfl) (by kernel_rfl) (by simp only [List.length_map, List.length_cons, List.length_nil] at *; omega))) ps_nil) (by kernel_rfl) (by kernel_rfl) (by kernel_rfl) (by kernel_rfl) (Eq.mp (by kernel_rfl) (hK (List.take ((Int.tmod c_84.tag 4).toNat - 0) (List.drop 0 [(TAttr.mk (⟨#[111, 107]⟩ : ByteArray) (TValue.mk 3 (⟨#[]⟩ : ByteArray) (w64 (Int.tmod (IntKind.wrap .u8 (Int.tdiv c_84.tag 4)) 2)))), (TAttr.mk (⟨#[115, 105, 122, 101]⟩ : ByteArray) (TValue.mk 2 (⟨#[]⟩ : ByteArray) (w64 ((w64 c_84.tag) - 100)))), (TAttr.mk (⟨#[122, 111, 110, 101]⟩ : ByteArray) (TValue.mk 1 x2781 0))])) h)) (.inr rfl)
end Go.Proofs.Ytnpdeecoejabgaa
