/- Go functions: their shallow forms, and that they keep their contracts. Printed by a program of mine (gs.py). -/
import Derived.Test.YtnpdeecoejabgaaFAT
import Derived.Test.YtnpdeecoejabgaaProg
set_option maxRecDepth 100000
set_option linter.unusedVariables false
set_option linter.unusedSimpArgs false
namespace Go.Proofs.Ytnpdeecoejabgaa
open Go Go.RowKit

theorem follows_mixed : (Try.prog).follows .mixedOrders = true := by kernel_rfl

def r16_0 : List AR := [⟨some 1, .box 27 true 7 (.t 0), [], none⟩,
  ⟨some 2, .mov (.c (.bool false)), [], none⟩]
def r16_1 : List AR := [⟨some 3, .mov (.c (.int .i64 0)), [], none⟩]
def r16_2 : List AR := [⟨some 4, .mov (.t 3), [], none⟩,
  ⟨some 5, .fad (.t 1) 0, [], none⟩,
  ⟨some 6, .ld false 1 (.t 5), [1], none⟩,
  ⟨some 7, .lens (.t 6), [2], none⟩,
  ⟨some 8, .bin .lss (.t 4) (.t 7), [0, 3], none⟩]
def r16_3 : List AR := [⟨some 11, .fad (.t 1) 0, [], none⟩,
  ⟨some 12, .ld false 1 (.t 11), [0], none⟩,
  ⟨some 13, .mov (.t 3), [], none⟩,
  ⟨some 14, .iad 3 (.t 12) (.t 13), [1, 2], none⟩,
  ⟨some 15, .fad (.t 14) 2, [3], none⟩,
  ⟨some 16, .ld false 1 (.t 15), [4], none⟩,
  ⟨some 17, .lens (.t 16), [5], none⟩,
  ⟨some 18, .bin .gtr (.t 17) (.c (.int .i64 8)), [6], none⟩]
def r16_4 : List AR := [⟨some 2, .mov (.c (.bool false)), [], none⟩]
def r16_5 : List AR := [⟨some 9, .mov (.t 3), [], none⟩,
  ⟨some 10, .bin .add (.t 9) (.c (.int .i64 1)), [0], none⟩,
  ⟨some 3, .mov (.t 10), [1, 0, 1], none⟩]
def r16_6 : List AR := [⟨some 19, .fad (.t 1) 0, [], none⟩,
  ⟨some 20, .ld false 1 (.t 19), [0], none⟩,
  ⟨some 21, .lens (.t 20), [1], none⟩,
  ⟨some 22, .bin .leq (.t 21) (.c (.int .i64 3)), [2], none⟩,
  ⟨some 23, .mov (.t 22), [3], none⟩,
  ⟨some 24, .fad (.t 1) 5, [4], some (23, true)⟩,
  ⟨some 25, .ld false 1 (.t 24), [5, 4], some (23, true)⟩,
  ⟨some 26, .lens (.t 25), [6, 4], some (23, true)⟩,
  ⟨some 27, .bin .leq (.t 26) (.c (.int .i64 6)), [7, 4], some (23, true)⟩,
  ⟨some 28, .pick (.t 23) (.t 27) (.c (.bool false)), [4, 8], none⟩,
  ⟨some 2, .mov (.t 28), [9, 4, 0, 1, 2, 3, 4, 5, 6, 7, 8, 9], none⟩]
def c16 : ACode := .seq (.reg r16_0 false) (.seq (.seq (.reg r16_1 false) (.blk 0 (.loop (.seq (.seq (.reg r16_2 false) (.cond (.t 8) (.skip) (.exit 0))) (.seq (.blk 1 (.seq (.reg r16_3 false) (.cond (.t 18) (.seq (.reg r16_4 false) (.ret)) (.skip)))) (.reg r16_5 false)))))) (.seq (.reg r16_6 false) (.ret)))
theorem body16 : Try.f16.body.map (comp Try.prog 29) = some c16 := by kernel_rfl
theorem res16 : allSome (Try.f16.results.toList.map (compRes Try.prog)) = some [.s 2] := by kernel_rfl
theorem cok16 {S : FSpec} (h : ∀ args K, S args K → args.all argOk = true ∧ args.length ≤ 29 ∧ AW Try.prog 29 (some ownP) c16 (initS args) (retPost [.s 2] args K)) : COK Try.prog 16 S := of_body Try.func16 Try.ntmps16 body16 res16 h

def J16_2 (K : Bool → Prop) (v29 : Bool) : Prop :=
  K v29

def L16_1 (s_16 : TStory) (K : Bool → Prop) (v19 : Int) (N24 : Int → Prop) : Prop :=
  Cond (decide (v19 < (s_16.trees.length : Int))) (Idx s_16.trees v19 fun x28 => Cond (decide ((x28.calls.length : Int) > 8)) (K false) (N24 (w64 (v19 + 1)))) (Cond (decide ((s_16.trees.length : Int) ≤ 3)) (J16_2 K (decide ((s_16.syncs.length : Int) ≤ 6))) (J16_2 K false))

/-- sleuth/sleuthlaw13.Short -/
def W16 (s_16 : TStory) (K : Bool → Prop) : Prop :=
  LoopW (fun (s : Int) N24 => L16_1 s_16 K s N24) 0

def S16 : FSpec := fun args K => ∃ (s_16 : TStory), ∃ (Kr : Bool → Prop), args = [.agg (List.map RC.d (TStory.enc s_16))] ∧ W16 s_16 Kr ∧ ∀ r, Kr r → K (.one (.d (.bool r))) []

theorem en16 : enters Try.prog 16 = true := by unfold enters; rw [Try.func16]; rfl
theorem cl16 (s_16 : TStory) {Kr : Bool → Prop} (h : W16 s_16 Kr) : S16 [.agg (List.map RC.d (TStory.enc s_16))] (fun rv rows => ∃ r, rv = (.one (.d (.bool r))) ∧ rows = [] ∧ Kr r) := ⟨s_16, Kr, rfl, h, fun r hr => ⟨r, rfl, rfl, hr⟩⟩

theorem ok16 : COK Try.prog 16 S16 := by
  refine cok16 fun args K0 hS => ?_
  obtain ⟨s_16, K, rfl, h, hK⟩ := hS
  refine ⟨by kernel_rfl, by simp, ?_⟩
  unfold W16 at h
  refine AW.sregL [(0, none), (1, none)] (by kernel_rfl) ?_
  refine l_det (some 1) (.one (.ref 1 1 0 0), [(1, 1, .row true 27 7 [[.d (.sl (List.map TTree.enc s_16.trees)), .d (.int .i8 s_16.offsets.e0), .d (.int .i8 s_16.offsets.e1), .d (.int .i8 s_16.offsets.e2), .d (.int .i8 s_16.offsets.e3), .d (.sl (List.map TSync.enc s_16.syncs)), .d (.int .u8 s_16.wrong)]])]) (by kernel_rfl) ?_
  refine l_det (some 2) (.one (.d (.bool false)), []) (by kernel_rfl) ?_
  refine l_nil ?_
  refine AW.seq ?_
  refine AW.sregL [(0, none)] (by kernel_rfl) ?_
  refine l_det (some 3) (.one (.d (.int .i64 0)), []) (by kernel_rfl) ?_
  refine l_nil ?_
  refine AW.blk ?_
  refine AW.loopL (S := Int) (fun s => (fun (v19 : Int) => [(1, .one (.ref 200001 0 0 0)), (3, .one (.d (.int .i64 v19)))]) s) (fun s => (fun (v19 : Int) => [(200001, .expl true 27 7 [[.d (.sl (List.map TTree.enc s_16.trees)), .d (.int .i8 s_16.offsets.e0), .d (.int .i8 s_16.offsets.e1), .d (.int .i8 s_16.offsets.e2), .d (.int .i8 s_16.offsets.e3), .d (.sl (List.map TSync.enc s_16.syncs)), .d (.int .u8 s_16.wrong)]])]) s) (fun (s : Int) N24 => L16_1 s_16 K s N24) (N := fun s => LoopW (fun (s : Int) N24 => L16_1 s_16 K s N24) s) (Lab.mk 0 [(200001, some 1)] (by kernel_rfl) (by kernel_rfl) (by kernel_rfl) (by kernel_rfl) h) (fun _ h => h) ?_
  rintro v19 N24 h
  have h : L16_1 s_16 K v19 N24 := h
  unfold L16_1 at h
  refine AW.seq ?_
  refine AW.sregL [(0, none), (1, none), (2, none), (3, none), (4, none)] (by kernel_rfl) ?_
  refine l_det (some 4) (.one (.d (.int .i64 v19)), []) (by kernel_rfl) ?_
  refine l_det (some 5) (.one (.ref 200001 0 0 0), []) (by kernel_rfl) ?_
  refine l_det (some 6) (.one (.d (.sl (List.map TTree.enc s_16.trees))), []) (by kernel_rfl) ?_
  refine l_spec (some 7) (.lens (.t 6)) (.one (.d (.int .i64 (s_16.trees.length : Int))), []) (by kernel_rfl) (detA_none (d_lens_sl (enc := TTree.enc) s_16.trees (by kernel_rfl))) ?_
  refine l_det (some 8) (.one (.d (.bool (decide (v19 < (s_16.trees.length : Int))))), []) (by kernel_rfl) ?_
  refine l_nil ?_
  refine AW.cond' (by kernel_rfl) h (fun h => ?_) (fun h => ?_)
  · refine AW.skip ?_
    refine q_fall ?_
    refine AW.seq ?_
    refine AW.blk ?_
    refine AW.sregL [(0, none), (1, none), (2, none), (3, none), (4, none), (5, none), (6, none), (7, none)] (by kernel_rfl) ?_
    refine l_det (some 11) (.one (.ref 200001 0 0 0), []) (by kernel_rfl) ?_
    refine l_det (some 12) (.one (.d (.sl (List.map TTree.enc s_16.trees))), []) (by kernel_rfl) ?_
    refine l_det (some 13) (.one (.d (.int .i64 v19)), []) (by kernel_rfl) ?_
    obtain ⟨h47, x28, h48, h⟩ := h
    refine l_spec (some 14) (.iad 3 (.t 12) (.t 13)) (.one (.d (.ptr [.int .u8 x28.slot, .int .u8 x28.start, .sl (List.map TCall.enc x28.calls)])), []) (by kernel_rfl) (detA_none (d_iad_sl (enc := TTree.enc) (k := .i64) s_16.trees x28 (by kernel_rfl) (by kernel_rfl) h47 h48 rfl)) ?_
    refine l_det (some 15) (.one (.d (.ptr [.sl (List.map TCall.enc x28.calls)])), []) (by kernel_rfl) ?_
    refine l_det (some 16) (.one (.d (.sl (List.map TCall.enc x28.calls))), []) (by kernel_rfl) ?_
    refine l_spec (some 17) (.lens (.t 16)) (.one (.d (.int .i64 (x28.calls.length : Int))), []) (by kernel_rfl) (detA_none (d_lens_sl (enc := TCall.enc) x28.calls (by kernel_rfl))) ?_
    refine l_det (some 18) (.one (.d (.bool (decide ((x28.calls.length : Int) > 8)))), []) (by kernel_rfl) ?_
    refine l_nil ?_
    refine AW.cond' (by kernel_rfl) h (fun h => ?_) (fun h => ?_)
    · refine AW.sregL [(0, none)] (by kernel_rfl) ?_
      refine l_det (some 2) (.one (.d (.bool false)), []) (by kernel_rfl) ?_
      refine l_nil ?_
      refine AW.ret ?_
      refine q_bret ?_
      refine q_ret ?_
      refine q_ret ?_
      refine q_bret ?_
      refine q_ret ?_
      exact q_end [.one (.d (.bool false))] [false] [.one (.d (.bool false))] [] [] (by kernel_rfl) ⟨by kernel_rfl, by kernel_rfl⟩ (by kernel_rfl) (by kernel_rfl) (by kernel_rfl) (by kernel_rfl) (Eq.mp (by kernel_rfl) (hK false h)) (.inr rfl)
    · refine AW.skip ?_
      refine q_bfall ?_
      refine q_fall ?_
      refine AW.regL [(0, none), (1, none), (2, none)] (by kernel_rfl) ?_
      refine l_det (some 9) (.one (.d (.int .i64 v19)), []) (by kernel_rfl) ?_
      refine l_det (some 10) (.one (.d (.int .i64 (w64 (v19 + 1)))), []) (by kernel_rfl) ?_
      refine l_det (some 3) (.one (.d (.int .i64 (w64 (v19 + 1)))), []) (by kernel_rfl) ?_
      refine l_nil ?_
      refine q_fall ?_
      exact Lab.mk (w64 (v19 + 1)) [(200001, some 200001)] (by kernel_rfl) (by kernel_rfl) (by kernel_rfl) (by kernel_rfl) h
  · refine AW.exit ?_
    refine q_exit ?_
    refine q_exit ?_
    refine q_bhere ?_
    refine q_fall ?_
    refine AW.seqL (S := Bool) (fun s => (fun (v29 : Bool) => [(2, .one (.d (.bool v29)))]) s) (fun s => (fun (v29 : Bool) => []) s) (fun s : Bool => J16_2 K s) ?_ ?_
    · refine AW.regL [(0, none), (1, none), (2, none), (3, none), (4, none), (5, none), (6, none), (7, none), (8, none), (9, none), (10, none)] (by kernel_rfl) ?_
      refine l_det (some 19) (.one (.ref 200001 0 0 0), []) (by kernel_rfl) ?_
      refine l_det (some 20) (.one (.d (.sl (List.map TTree.enc s_16.trees))), []) (by kernel_rfl) ?_
      refine l_spec (some 21) (.lens (.t 20)) (.one (.d (.int .i64 (s_16.trees.length : Int))), []) (by kernel_rfl) (detA_none (d_lens_sl (enc := TTree.enc) s_16.trees (by kernel_rfl))) ?_
      refine l_det (some 22) (.one (.d (.bool (decide ((s_16.trees.length : Int) ≤ 3)))), []) (by kernel_rfl) ?_
      refine l_det (some 23) (.one (.d (.bool (decide ((s_16.trees.length : Int) ≤ 3)))), []) (by kernel_rfl) ?_
      refine l_split (s := 23) (by kernel_rfl) h (fun h => ?_) (fun h => ?_)
      · refine l_det (some 24) (.one (.ref 200001 0 0 5), []) (by kernel_rfl) ?_
        refine l_det (some 25) (.one (.d (.sl (List.map TSync.enc s_16.syncs))), []) (by kernel_rfl) ?_
        refine l_spec (some 26) (.lens (.t 25)) (.one (.d (.int .i64 (s_16.syncs.length : Int))), []) (by kernel_rfl) (detA_none (d_lens_sl (enc := TSync.enc) s_16.syncs (by kernel_rfl))) ?_
        refine l_det (some 27) (.one (.d (.bool (decide ((s_16.syncs.length : Int) ≤ 6)))), []) (by kernel_rfl) ?_
        refine l_det (some 28) (.one (.d (.bool (decide ((s_16.syncs.length : Int) ≤ 6)))), []) (by kernel_rfl) ?_
        refine l_det (some 2) (.one (.d (.bool (decide ((s_16.syncs.length : Int) ≤ 6)))), []) (by kernel_rfl) ?_
        refine l_nil ?_
        refine q_fall ?_
        exact Lab.mk (decide ((s_16.syncs.length : Int) ≤ 6)) [] (by kernel_rfl) (by kernel_rfl) (by kernel_rfl) (by kernel_rfl) h
      · refine l_det (some 24) (.tup [], []) (by kernel_rfl) ?_
        refine l_det (some 25) (.tup [], []) (by kernel_rfl) ?_
        refine l_det (some 26) (.tup [], []) (by kernel_rfl) ?_
        refine l_det (some 27) (.tup [], []) (by kernel_rfl) ?_
        refine l_det (some 28) (.one (.d (.bool false)), []) (by kernel_rfl) ?_
        refine l_det (some 2) (.one (.d (.bool false)), []) (by kernel_rfl) ?_
        refine l_nil ?_
        refine q_fall ?_
        exact Lab.mk false [] (by kernel_rfl) (by kernel_rfl) (by kernel_rfl) (by kernel_rfl) h
    · rintro v29 h
      have h : J16_2 K v29 := h
      unfold J16_2 at h
      refine AW.ret ?_
      exact q_end [.one (.d (.bool v29))] [false] [.one (.d (.bool v29))] [] [] (by kernel_rfl) ⟨by kernel_rfl, by kernel_rfl⟩ (by kernel_rfl) (by kernel_rfl) (by kernel_rfl) (by kernel_rfl) (Eq.mp (by kernel_rfl) (hK v29 h)) (.inr rfl)
def r41_0 : List AR := [⟨some 2, .box 27 true 7 (.t 0), [], none⟩,
  ⟨some 4, .mov (.c (.int .i64 0)), [], none⟩]
def r41_1 : List AR := [⟨some 5, .fad (.t 2) 0, [], none⟩,
  ⟨some 6, .ld false 1 (.t 5), [0], none⟩,
  ⟨some 7, .mov (.t 1), [], none⟩,
  ⟨some 8, .iad 3 (.t 6) (.t 7), [1, 2], none⟩,
  ⟨some 9, .fad (.t 8) 0, [3], none⟩,
  ⟨some 10, .ld false 1 (.t 9), [4], none⟩,
  ⟨some 11, .bin .rem (.t 10) (.c (.int .u8 64)), [5], none⟩,
  ⟨some 12, .cvi .i64 (.t 11), [6], none⟩,
  ⟨some 13, .bin .shl (.t 12) (.c (.int .u64 20)), [7], none⟩,
  ⟨some 14, .bin .add (.t 13) (.c (.int .i64 1)), [8], none⟩,
  ⟨some 15, .mov (.t 1), [], none⟩,
  ⟨some 16, .bin .add (.t 14) (.t 15), [9, 10], none⟩,
  ⟨some 4, .mov (.t 16), [11, 0, 1, 2, 3, 4, 5, 6, 7, 8, 9, 10, 11], none⟩]
def c41 : ACode := .seq (.reg r41_0 false) (.seq (.reg r41_1 false) (.ret))
theorem body41 : Try.f41.body.map (comp Try.prog 17) = some c41 := by kernel_rfl
theorem res41 : allSome (Try.f41.results.toList.map (compRes Try.prog)) = some [.s 4] := by kernel_rfl
theorem cok41 {S : FSpec} (h : ∀ args K, S args K → args.all argOk = true ∧ args.length ≤ 17 ∧ AW Try.prog 17 (some ownP) c41 (initS args) (retPost [.s 4] args K)) : COK Try.prog 41 S := of_body Try.func41 Try.ntmps41 body41 res41 h

/-- sleuth/sleuthlaw13.TraceId -/
def W41 (s_41 : TStory) (k_41 : Int) (K : Int → Prop) : Prop :=
  Idx s_41.trees k_41 fun x39 => K (w64 ((w64 ((w64 ((w64 (Int.tmod x39.slot 64)) * 2 ^ 20)) + 1)) + k_41))

def S41 : FSpec := fun args K => ∃ (s_41 : TStory), ∃ (k_41 : Int), ∃ (Kr : Int → Prop), args = [.agg (List.map RC.d (TStory.enc s_41)), .one (.d (.int .i64 k_41))] ∧ W41 s_41 k_41 Kr ∧ ∀ r, Kr r → K (.one (.d (.int .i64 r))) []

theorem en41 : enters Try.prog 41 = true := by unfold enters; rw [Try.func41]; rfl
theorem cl41 (s_41 : TStory) (k_41 : Int) {Kr : Int → Prop} (h : W41 s_41 k_41 Kr) : S41 [.agg (List.map RC.d (TStory.enc s_41)), .one (.d (.int .i64 k_41))] (fun rv rows => ∃ r, rv = (.one (.d (.int .i64 r))) ∧ rows = [] ∧ Kr r) := ⟨s_41, k_41, Kr, rfl, h, fun r hr => ⟨r, rfl, rfl, hr⟩⟩

theorem ok41 : COK Try.prog 41 S41 := by
  refine cok41 fun args K0 hS => ?_
  obtain ⟨s_41, k_41, K, rfl, h, hK⟩ := hS
  refine ⟨by kernel_rfl, by simp, ?_⟩
  unfold W41 at h
  refine AW.sregL [(0, none), (1, none)] (by kernel_rfl) ?_
  refine l_det (some 2) (.one (.ref 2 1 0 0), [(2, 1, .row true 27 7 [[.d (.sl (List.map TTree.enc s_41.trees)), .d (.int .i8 s_41.offsets.e0), .d (.int .i8 s_41.offsets.e1), .d (.int .i8 s_41.offsets.e2), .d (.int .i8 s_41.offsets.e3), .d (.sl (List.map TSync.enc s_41.syncs)), .d (.int .u8 s_41.wrong)]])]) (by kernel_rfl) ?_
  refine l_det (some 4) (.one (.d (.int .i64 0)), []) (by kernel_rfl) ?_
  refine l_nil ?_
  refine AW.sregL [(0, none), (1, none), (2, none), (3, none), (4, none), (5, none), (6, none), (7, none), (8, none), (9, none), (10, none), (11, none), (12, none)] (by kernel_rfl) ?_
  refine l_det (some 5) (.one (.ref 2 1 0 0), []) (by kernel_rfl) ?_
  refine l_det (some 6) (.one (.d (.sl (List.map TTree.enc s_41.trees))), []) (by kernel_rfl) ?_
  refine l_det (some 7) (.one (.d (.int .i64 k_41)), []) (by kernel_rfl) ?_
  obtain ⟨h3, x39, h4, h⟩ := h
  refine l_spec (some 8) (.iad 3 (.t 6) (.t 7)) (.one (.d (.ptr [.int .u8 x39.slot, .int .u8 x39.start, .sl (List.map TCall.enc x39.calls)])), []) (by kernel_rfl) (detA_none (d_iad_sl (enc := TTree.enc) (k := .i64) s_41.trees x39 (by kernel_rfl) (by kernel_rfl) h3 h4 rfl)) ?_
  refine l_det (some 9) (.one (.d (.ptr [.int .u8 x39.slot, .int .u8 x39.start, .sl (List.map TCall.enc x39.calls)])), []) (by kernel_rfl) ?_
  refine l_det (some 10) (.one (.d (.int .u8 x39.slot)), []) (by kernel_rfl) ?_
  refine l_det (some 11) (.one (.d (.int .u8 (Int.tmod x39.slot 64))), []) (by kernel_rfl) ?_
  refine l_det (some 12) (.one (.d (.int .i64 (w64 (Int.tmod x39.slot 64)))), []) (by kernel_rfl) ?_
  refine l_det (some 13) (.one (.d (.int .i64 (w64 ((w64 (Int.tmod x39.slot 64)) * 2 ^ 20)))), []) (by kernel_rfl) ?_
  refine l_det (some 14) (.one (.d (.int .i64 (w64 ((w64 ((w64 (Int.tmod x39.slot 64)) * 2 ^ 20)) + 1)))), []) (by kernel_rfl) ?_
  refine l_det (some 15) (.one (.d (.int .i64 k_41)), []) (by kernel_rfl) ?_
  refine l_det (some 16) (.one (.d (.int .i64 (w64 ((w64 ((w64 ((w64 (Int.tmod x39.slot 64)) * 2 ^ 20)) + 1)) + k_41)))), []) (by kernel_rfl) ?_
  refine l_det (some 4) (.one (.d (.int .i64 (w64 ((w64 ((w64 ((w64 (Int.tmod x39.slot 64)) * 2 ^ 20)) + 1)) + k_41)))), []) (by kernel_rfl) ?_
  refine l_nil ?_
  refine AW.ret ?_
  exact q_end [.one (.d (.int .i64 (w64 ((w64 ((w64 ((w64 (Int.tmod x39.slot 64)) * 2 ^ 20)) + 1)) + k_41))))] [false] [.one (.d (.int .i64 (w64 ((w64 ((w64 ((w64 (Int.tmod x39.slot 64)) * 2 ^ 20)) + 1)) + k_41))))] [] [] (by kernel_rfl) ⟨by kernel_rfl, by kernel_rfl⟩ (by kernel_rfl) (by kernel_rfl) (by kernel_rfl) (by kernel_rfl) (Eq.mp (by kernel_rfl) (hK (w64 ((w64 ((w64 ((w64 (Int.tmod x39.slot 64)) * 2 ^ 20)) + 1)) + k_41)) h)) (.inr rfl)
def r83_0 : List AR := [⟨some 1, .box 153 true 11 (.t 0), [], none⟩,
  ⟨some 2, .mov (.c (.int .i64 0)), [], none⟩]
def r83_1 : List AR := [⟨some 3, .fad (.t 1) 2, [], none⟩,
  ⟨some 4, .ld false 1 (.t 3), [0], none⟩,
  ⟨some 5, .bin .rem (.t 4) (.c (.int .u8 5)), [1], none⟩,
  ⟨some 6, .cvi .i64 (.t 5), [2], none⟩,
  ⟨some 7, .bin .add (.c (.int .i64 1)) (.t 6), [3], none⟩,
  ⟨some 2, .mov (.t 7), [4, 0, 1, 2, 3, 4], none⟩]
def c83 : ACode := .seq (.reg r83_0 false) (.seq (.reg r83_1 false) (.ret))
theorem body83 : Try.f83.body.map (comp Try.prog 8) = some c83 := by kernel_rfl
theorem res83 : allSome (Try.f83.results.toList.map (compRes Try.prog)) = some [.s 2] := by kernel_rfl
theorem cok83 {S : FSpec} (h : ∀ args K, S args K → args.all argOk = true ∧ args.length ≤ 8 ∧ AW Try.prog 8 (some ownP) c83 (initS args) (retPost [.s 2] args K)) : COK Try.prog 83 S := of_body Try.func83 Try.ntmps83 body83 res83 h

/-- sleuth/sleuthlaw13.kind -/
def W83 (c_83 : TCall) (K : Int → Prop) : Prop :=
  K (w64 (1 + (w64 (Int.tmod c_83.kind 5))))

def S83 : FSpec := fun args K => ∃ (c_83 : TCall), ∃ (Kr : Int → Prop), args = [.agg (List.map RC.d (TCall.enc c_83))] ∧ W83 c_83 Kr ∧ ∀ r, Kr r → K (.one (.d (.int .i64 r))) []

theorem en83 : enters Try.prog 83 = true := by unfold enters; rw [Try.func83]; rfl
theorem cl83 (c_83 : TCall) {Kr : Int → Prop} (h : W83 c_83 Kr) : S83 [.agg (List.map RC.d (TCall.enc c_83))] (fun rv rows => ∃ r, rv = (.one (.d (.int .i64 r))) ∧ rows = [] ∧ Kr r) := ⟨c_83, Kr, rfl, h, fun r hr => ⟨r, rfl, rfl, hr⟩⟩

theorem ok83 : COK Try.prog 83 S83 := by
  refine cok83 fun args K0 hS => ?_
  obtain ⟨c_83, K, rfl, h, hK⟩ := hS
  refine ⟨by kernel_rfl, by simp, ?_⟩
  unfold W83 at h
  refine AW.sregL [(0, none), (1, none)] (by kernel_rfl) ?_
  refine l_det (some 1) (.one (.ref 1 1 0 0), [(1, 1, .row true 153 11 [[.d (.int .u8 c_83.parent), .d (.int .u8 c_83.clock), .d (.int .u8 c_83.kind), .d (.int .u8 c_83.service), .d (.int .u8 c_83.version), .d (.int .u8 c_83.operation), .d (.int .u8 c_83.wait), .d (.int .u8 c_83.long), .d (.int .u8 c_83.link), .d (.int .u8 c_83.tag), .d (.bool c_83.fail)]])]) (by kernel_rfl) ?_
  refine l_det (some 2) (.one (.d (.int .i64 0)), []) (by kernel_rfl) ?_
  refine l_nil ?_
  refine AW.sregL [(0, none), (1, none), (2, none), (3, none), (4, none), (5, none)] (by kernel_rfl) ?_
  refine l_det (some 3) (.one (.ref 1 1 0 2), []) (by kernel_rfl) ?_
  refine l_det (some 4) (.one (.d (.int .u8 c_83.kind)), []) (by kernel_rfl) ?_
  refine l_det (some 5) (.one (.d (.int .u8 (Int.tmod c_83.kind 5))), []) (by kernel_rfl) ?_
  refine l_det (some 6) (.one (.d (.int .i64 (w64 (Int.tmod c_83.kind 5)))), []) (by kernel_rfl) ?_
  refine l_det (some 7) (.one (.d (.int .i64 (w64 (1 + (w64 (Int.tmod c_83.kind 5)))))), []) (by kernel_rfl) ?_
  refine l_det (some 2) (.one (.d (.int .i64 (w64 (1 + (w64 (Int.tmod c_83.kind 5)))))), []) (by kernel_rfl) ?_
  refine l_nil ?_
  refine AW.ret ?_
  exact q_end [.one (.d (.int .i64 (w64 (1 + (w64 (Int.tmod c_83.kind 5))))))] [false] [.one (.d (.int .i64 (w64 (1 + (w64 (Int.tmod c_83.kind 5))))))] [] [] (by kernel_rfl) ⟨by kernel_rfl, by kernel_rfl⟩ (by kernel_rfl) (by kernel_rfl) (by kernel_rfl) (by kernel_rfl) (Eq.mp (by kernel_rfl) (hK (w64 (1 + (w64 (Int.tmod c_83.kind 5)))) h)) (.inr rfl)
def r68_0 : List AR := [⟨some 1, .box 104 true 3 (.t 0), [], none⟩,
  ⟨some 2, .mov (.c .nils), [], none⟩,
  ⟨some 3, .mov (.c .nils), [1], none⟩]
def r68_1 : List AR := [⟨some 4, .mov (.c (.int .i64 0)), [], none⟩]
def r68_2 : List AR := [⟨some 10, .mov (.t 4), [], none⟩,
  ⟨some 11, .fad (.t 1) 2, [], none⟩,
  ⟨some 12, .ld false 1 (.t 11), [1], none⟩,
  ⟨some 13, .lens (.t 12), [2], none⟩,
  ⟨some 14, .bin .lss (.t 10) (.t 13), [0, 3], none⟩]
def r68_3 : List AR := [⟨some 17, .fad (.t 1) 2, [], none⟩,
  ⟨some 18, .ld false 1 (.t 17), [0], none⟩,
  ⟨some 19, .mov (.t 4), [], none⟩,
  ⟨some 20, .iad 11 (.t 18) (.t 19), [1, 2], none⟩,
  ⟨some 21, .ld true 11 (.t 20), [3], none⟩,
  ⟨some 5, .alloc 153 true [.int .u8 0, .int .u8 0, .int .u8 0, .int .u8 0, .int .u8 0, .int .u8 0, .int .u8 0, .int .u8 0, .int .u8 0, .int .u8 0, .bool false], [], none⟩,
  ⟨none, .st 11 (.t 5) (.t 21), [5, 4, 0, 1, 2, 3, 4, 5], none⟩]
def r68_4 : List AR := [⟨some 22, .fad (.t 1) 1, [], none⟩,
  ⟨some 23, .ld false 1 (.t 22), [0], none⟩,
  ⟨some 24, .bin .rem (.t 23) (.c (.int .u8 32)), [1], none⟩,
  ⟨some 25, .cvi .i64 (.t 24), [2], none⟩,
  ⟨some 26, .bin .add (.c (.int .i64 1000)) (.t 25), [3], none⟩,
  ⟨some 6, .mov (.t 26), [4, 0, 1, 2, 3, 4], none⟩]
def r68_5 : List AR := [⟨some 27, .fad (.t 5) 0, [], none⟩,
  ⟨some 28, .ld false 1 (.t 27), [0], none⟩,
  ⟨some 29, .cvi .i64 (.t 28), [1], none⟩,
  ⟨some 30, .mov (.t 4), [], none⟩,
  ⟨some 31, .bin .add (.t 30) (.c (.int .i64 1)), [3], none⟩,
  ⟨some 32, .bin .rem (.t 29) (.t 31), [2, 4], none⟩,
  ⟨some 7, .mov (.t 32), [5, 0, 1, 2, 3, 4, 5], none⟩]
def r68_6 : List AR := [⟨some 33, .mov (.t 7), [], none⟩,
  ⟨some 34, .mov (.t 4), [], none⟩,
  ⟨some 35, .bin .lss (.t 33) (.t 34), [0, 1], none⟩]
def r68_7 : List AR := [⟨some 36, .mov (.t 2), [], none⟩,
  ⟨some 37, .mov (.t 7), [], none⟩,
  ⟨some 38, .iad 1 (.t 36) (.t 37), [0, 1], none⟩,
  ⟨some 39, .ld false 1 (.t 38), [2], none⟩,
  ⟨some 6, .mov (.t 39), [3, 0, 1, 2, 3], none⟩]
def r68_8 : List AR := [⟨some 40, .mov (.t 4), [], none⟩,
  ⟨some 41, .bin .gtr (.t 40) (.c (.int .i64 0)), [0], none⟩]
def r68_9 : List AR := [⟨some 42, .mov (.t 6), [], none⟩,
  ⟨some 43, .fad (.t 5) 6, [], none⟩,
  ⟨some 44, .ld false 1 (.t 43), [1], none⟩,
  ⟨some 45, .bin .rem (.t 44) (.c (.int .u8 32)), [2], none⟩,
  ⟨some 46, .cvi .i64 (.t 45), [3], none⟩,
  ⟨some 47, .bin .add (.t 42) (.t 46), [0, 4], none⟩,
  ⟨some 6, .mov (.t 47), [5, 0, 1, 2, 3, 4, 5], none⟩]
def r68_10 : List AR := [⟨some 48, .mov (.t 2), [], none⟩,
  ⟨some 49, .mov (.t 6), [], none⟩,
  ⟨some 50, .bsl 3 1 1 [.int .i64 0] [(0, .t 49)], [1], none⟩,
  ⟨some 51, .app 3 1 8 [.int .i64 0] (.t 48) (.t 50), [0, 2], none⟩,
  ⟨some 52, .mov (.t 3), [], none⟩,
  ⟨some 53, .mov (.t 6), [], none⟩,
  ⟨some 54, .fad (.t 5) 7, [], none⟩,
  ⟨some 55, .ld false 1 (.t 54), [6], none⟩,
  ⟨some 56, .bin .rem (.t 55) (.c (.int .u8 32)), [7], none⟩,
  ⟨some 57, .cvi .i64 (.t 56), [8], none⟩,
  ⟨some 58, .bin .add (.t 53) (.t 57), [5, 9], none⟩,
  ⟨some 59, .bsl 3 1 1 [.int .i64 0] [(0, .t 58)], [10], none⟩,
  ⟨some 60, .app 3 1 8 [.int .i64 0] (.t 52) (.t 59), [4, 11, 3], none⟩,
  ⟨some 2, .mov (.t 51), [3, 12, 0, 1, 2, 3], none⟩,
  ⟨some 3, .mov (.t 60), [12, 13, 0, 1, 2, 3, 4, 5, 6, 7, 8, 9, 10, 11, 12, 13], none⟩]
def r68_11 : List AR := [⟨some 15, .mov (.t 4), [], none⟩,
  ⟨some 16, .bin .add (.t 15) (.c (.int .i64 1)), [0], none⟩,
  ⟨some 4, .mov (.t 16), [1, 0, 1], none⟩]
def r68_12 : List AR := [⟨some 61, .fad (.t 1) 2, [], none⟩,
  ⟨some 62, .ld false 1 (.t 61), [0], none⟩,
  ⟨some 63, .lens (.t 62), [1], none⟩,
  ⟨some 64, .bin .sub (.t 63) (.c (.int .i64 1)), [2], none⟩,
  ⟨some 8, .mov (.t 64), [3, 0, 1, 2, 3], none⟩]
def r68_13 : List AR := [⟨some 65, .mov (.t 8), [], none⟩,
  ⟨some 66, .bin .gtr (.t 65) (.c (.int .i64 0)), [0], none⟩]
def r68_14 : List AR := [⟨some 69, .fad (.t 1) 2, [], none⟩,
  ⟨some 70, .ld false 1 (.t 69), [0], none⟩,
  ⟨some 71, .mov (.t 8), [], none⟩,
  ⟨some 72, .iad 11 (.t 70) (.t 71), [1, 2], none⟩,
  ⟨some 73, .fad (.t 72) 0, [3], none⟩,
  ⟨some 74, .ld false 1 (.t 73), [4], none⟩,
  ⟨some 75, .cvi .i64 (.t 74), [5], none⟩,
  ⟨some 76, .mov (.t 8), [], none⟩,
  ⟨some 77, .bin .add (.t 76) (.c (.int .i64 1)), [7], none⟩,
  ⟨some 78, .bin .rem (.t 75) (.t 77), [6, 8], none⟩,
  ⟨some 9, .mov (.t 78), [9, 0, 1, 2, 3, 4, 5, 6, 7, 8, 9], none⟩]
def r68_15 : List AR := [⟨some 79, .mov (.t 9), [], none⟩,
  ⟨some 80, .mov (.t 8), [], none⟩,
  ⟨some 81, .bin .lss (.t 79) (.t 80), [0, 1], none⟩,
  ⟨some 82, .mov (.t 81), [2], none⟩,
  ⟨some 83, .fad (.t 1) 2, [3], some (82, true)⟩,
  ⟨some 84, .ld false 1 (.t 83), [4, 3], some (82, true)⟩,
  ⟨some 85, .mov (.t 8), [3], some (82, true)⟩,
  ⟨some 86, .iad 11 (.t 84) (.t 85), [5, 6, 3], some (82, true)⟩,
  ⟨some 87, .ld true 11 (.t 86), [7, 3], some (82, true)⟩,
  ⟨some 88, .call 83 [.t 87], [8, 3, 3], some (82, true)⟩,
  ⟨some 89, .bin .eql (.t 88) (.c (.int .i64 3)), [9, 3], some (82, true)⟩,
  ⟨some 90, .pick (.t 82) (.t 89) (.c (.bool false)), [3, 10], none⟩,
  ⟨some 91, .mov (.t 90), [11, 9], none⟩,
  ⟨some 92, .fad (.t 1) 2, [12], some (91, true)⟩,
  ⟨some 93, .ld false 1 (.t 92), [13, 12], some (91, true)⟩,
  ⟨some 94, .mov (.t 9), [12], some (91, true)⟩,
  ⟨some 95, .iad 11 (.t 93) (.t 94), [14, 15, 12], some (91, true)⟩,
  ⟨some 96, .ld true 11 (.t 95), [16, 12], some (91, true)⟩,
  ⟨some 97, .call 83 [.t 96], [17, 12, 12], some (91, true)⟩,
  ⟨some 98, .bin .eql (.t 97) (.c (.int .i64 2)), [18, 12], some (91, true)⟩,
  ⟨some 99, .pick (.t 91) (.t 98) (.c (.bool false)), [12, 19], none⟩,
  ⟨some 100, .mov (.t 99), [20, 18], none⟩,
  ⟨some 101, .fad (.t 1) 2, [21], some (100, true)⟩,
  ⟨some 102, .ld false 1 (.t 101), [22, 21], some (100, true)⟩,
  ⟨some 103, .mov (.t 9), [21], some (100, true)⟩,
  ⟨some 104, .iad 11 (.t 102) (.t 103), [23, 24, 21], some (100, true)⟩,
  ⟨some 105, .fad (.t 104) 10, [25, 21], some (100, true)⟩,
  ⟨some 106, .ld false 1 (.t 105), [26, 21], some (100, true)⟩,
  ⟨some 107, .un .not (.t 106), [27, 21], some (100, true)⟩,
  ⟨some 108, .pick (.t 100) (.t 107) (.c (.bool false)), [21, 28], none⟩]
def r68_16 : List AR := [⟨some 109, .mov (.t 3), [], none⟩,
  ⟨some 110, .mov (.t 9), [], none⟩,
  ⟨some 111, .mov (.t 3), [], none⟩,
  ⟨some 112, .mov (.t 9), [], none⟩,
  ⟨some 113, .iad 1 (.t 111) (.t 112), [2, 3], none⟩,
  ⟨some 114, .ld false 1 (.t 113), [4], none⟩,
  ⟨some 115, .mov (.t 3), [], none⟩,
  ⟨some 116, .mov (.t 8), [], none⟩,
  ⟨some 117, .iad 1 (.t 115) (.t 116), [6, 7], none⟩,
  ⟨some 118, .ld false 1 (.t 117), [8], none⟩,
  ⟨some 119, .mm true [.t 114, .t 118], [5, 9], none⟩,
  ⟨some 120, .iad 1 (.t 109) (.t 110), [0, 1, 0, 1, 2, 3, 4, 5, 6, 7, 8, 9, 10], none⟩,
  ⟨none, .st 1 (.t 120) (.t 119), [11, 10, 0, 1, 2, 3, 4, 5, 6, 7, 8, 9, 10], none⟩]
def r68_17 : List AR := [⟨some 67, .mov (.t 8), [], none⟩,
  ⟨some 68, .bin .sub (.t 67) (.c (.int .i64 1)), [0], none⟩,
  ⟨some 8, .mov (.t 68), [1, 0, 1], none⟩]
def r68_18 : List AR := [⟨some 121, .mov (.t 2), [], none⟩,
  ⟨some 122, .mov (.t 3), [], none⟩,
  ⟨some 2, .mov (.t 121), [0, 0], none⟩,
  ⟨some 3, .mov (.t 122), [1, 2, 0, 1, 2], none⟩]
def c68 : ACode := .seq (.reg r68_0 false) (.seq (.seq (.reg r68_1 false) (.blk 0 (.loop (.seq (.seq (.reg r68_2 false) (.cond (.t 14) (.skip) (.exit 0))) (.seq (.blk 1 (.seq (.reg r68_3 false) (.seq (.reg r68_4 false) (.seq (.seq (.reg r68_5 false) (.seq (.reg r68_6 false) (.cond (.t 35) (.reg r68_7 false) (.skip)))) (.seq (.seq (.reg r68_8 false) (.cond (.t 41) (.reg r68_9 false) (.skip))) (.reg r68_10 true)))))) (.reg r68_11 false)))))) (.seq (.seq (.reg r68_12 false) (.blk 2 (.loop (.seq (.seq (.reg r68_13 false) (.cond (.t 66) (.skip) (.exit 2))) (.seq (.blk 3 (.seq (.reg r68_14 false) (.seq (.reg r68_15 false) (.cond (.t 108) (.reg r68_16 true) (.skip))))) (.reg r68_17 false)))))) (.seq (.reg r68_18 false) (.ret))))
theorem body68 : Try.f68.body.map (comp Try.prog 123) = some c68 := by kernel_rfl
theorem res68 : allSome (Try.f68.results.toList.map (compRes Try.prog)) = some [.s 2, .s 3] := by kernel_rfl
theorem cok68 {S : FSpec} (h : ∀ args K, S args K → args.all argOk = true ∧ args.length ≤ 123 ∧ AW Try.prog 123 (some ownP) c68 (initS args) (retPost [.s 2, .s 3] args K)) : COK Try.prog 68 S := of_body Try.func68 Try.ntmps68 body68 res68 h

def J68_3 (v82 : List Int) (v83 : List Int) (x108 : TCall) (N99 : ((List Int) × (List Int) × Int) → Prop) (v84 : Int) (v112 : Int) : Prop :=
  Fits ((v82 ++ [v112]).length * 8) (Fits ((v83 ++ [(w64 (v112 + (w64 (Int.tmod x108.long 32))))]).length * 8) (N99 ((v82 ++ [v112]), (v83 ++ [(w64 (v112 + (w64 (Int.tmod x108.long 32))))]), (w64 (v84 + 1)))))

def J68_2 (v84 : Int) (v82 : List Int) (v83 : List Int) (x108 : TCall) (N99 : ((List Int) × (List Int) × Int) → Prop) (v111 : Int) : Prop :=
  Cond (decide (v84 > 0)) (J68_3 v82 v83 x108 N99 v84 (w64 (v111 + (w64 (Int.tmod x108.wait 32))))) (J68_3 v82 v83 x108 N99 v84 v111)

def J68_5 (N334 : ((List Int) × Int) → Prop) (v290 : Int) (v363 : List Int) : Prop :=
  N334 (v363, (w64 (v290 - 1)))

def J68_6 (v289 : List Int) (x365 : TCall) (v290 : Int) (N334 : ((List Int) × Int) → Prop) (v372 : Bool) : Prop :=
  Cond v372 (Idx v289 (Int.tmod (w64 x365.parent) (w64 (v290 + 1))) fun x373 => Idx v289 v290 fun x374 => J68_5 N334 v290 (List.set v289 ((Int.tmod (w64 x365.parent) (w64 (v290 + 1))).toNat) (if x374 > x373 then x374 else x373))) (J68_5 N334 v290 v289)

def L68_4 (t_68 : TTree) (K : ((List Int) × (List Int)) → Prop) (v82 : List Int) (v289 : List Int) (v290 : Int) (N334 : ((List Int) × Int) → Prop) : Prop :=
  Cond (decide (v290 > 0)) (Idx t_68.calls v290 fun x365 => (w64 (v290 + 1)) ≠ 0 ∧ (Cond (decide ((Int.tmod (w64 x365.parent) (w64 (v290 + 1))) < v290)) (W83 x365 fun r375 => Cond (decide (r375 = 3)) (Idx t_68.calls (Int.tmod (w64 x365.parent) (w64 (v290 + 1))) fun x376 => W83 x376 fun r377 => Cond (decide (r377 = 2)) (J68_6 v289 x365 v290 N334 (!x376.fail)) (J68_6 v289 x365 v290 N334 false)) (J68_6 v289 x365 v290 N334 false)) (J68_6 v289 x365 v290 N334 false))) (K (v82, v289))

def L68_1 (t_68 : TTree) (K : ((List Int) × (List Int)) → Prop) (v82 : List Int) (v83 : List Int) (v84 : Int) (N99 : ((List Int) × (List Int) × Int) → Prop) : Prop :=
  Cond (decide (v84 < (t_68.calls.length : Int))) (Idx t_68.calls v84 fun x108 => (w64 (v84 + 1)) ≠ 0 ∧ (Cond (decide ((Int.tmod (w64 x108.parent) (w64 (v84 + 1))) < v84)) (Idx v82 (Int.tmod (w64 x108.parent) (w64 (v84 + 1))) fun x113 => J68_2 v84 v82 v83 x108 N99 x113) (J68_2 v84 v82 v83 x108 N99 (w64 (1000 + (w64 (Int.tmod t_68.start 32))))))) (LoopW (fun (s : ((List Int) × Int)) N334 => L68_4 t_68 K v82 s.1 s.2 N334) (v83, (w64 ((t_68.calls.length : Int) - 1))))

/-- sleuth/sleuthlaw13.times -/
def W68 (t_68 : TTree) (K : ((List Int) × (List Int)) → Prop) : Prop :=
  LoopW (fun (s : ((List Int) × (List Int) × Int)) N99 => L68_1 t_68 K s.1 s.2.1 s.2.2 N99) ([], [], 0)

def S68 : FSpec := fun args K => ∃ (t_68 : TTree), ∃ (Kr : ((List Int) × (List Int)) → Prop), args = [.agg (List.map RC.d (TTree.enc t_68))] ∧ W68 t_68 Kr ∧ ∀ r, Kr r → K (.tup [.one (.d (.sl (List.map (eInt .i64) r.1))), .one (.d (.sl (List.map (eInt .i64) r.2)))]) []

theorem en68 : enters Try.prog 68 = true := by unfold enters; rw [Try.func68]; rfl
theorem cl68 (t_68 : TTree) {Kr : ((List Int) × (List Int)) → Prop} (h : W68 t_68 Kr) : S68 [.agg (List.map RC.d (TTree.enc t_68))] (fun rv rows => ∃ r, rv = (.tup [.one (.d (.sl (List.map (eInt .i64) r.1))), .one (.d (.sl (List.map (eInt .i64) r.2)))]) ∧ rows = [] ∧ Kr r) := ⟨t_68, Kr, rfl, h, fun r hr => ⟨r, rfl, rfl, hr⟩⟩

theorem ok68 : COK Try.prog 68 S68 := by
  refine cok68 fun args K0 hS => ?_
  obtain ⟨t_68, K, rfl, h, hK⟩ := hS
  refine ⟨by kernel_rfl, by simp, ?_⟩
  unfold W68 at h
  refine AW.sregL [(0, none), (1, none), (2, none)] (by kernel_rfl) ?_
  refine l_det (some 1) (.one (.ref 1 1 0 0), [(1, 1, .row true 104 3 [[.d (.int .u8 t_68.slot), .d (.int .u8 t_68.start), .d (.sl (List.map TCall.enc t_68.calls))]])]) (by kernel_rfl) ?_
  refine l_det (some 2) (.one (.nils), []) (by kernel_rfl) ?_
  refine l_det (some 3) (.one (.nils), []) (by kernel_rfl) ?_
  refine l_nil ?_
  refine AW.seq ?_
  refine AW.sregL [(0, none)] (by kernel_rfl) ?_
  refine l_det (some 4) (.one (.d (.int .i64 0)), []) (by kernel_rfl) ?_
  refine l_nil ?_
  refine AW.blk ?_
  refine AW.loopL (S := ((List Int) × (List Int) × Int)) (fun s => (fun (v82 : List Int) (v83 : List Int) (v84 : Int) => [(1, .one (.ref 200001 0 0 0)), (2, .one (.view 200002 0 0 ((List.map (eInt .i64) v82).length))), (3, .one (.view 200003 0 0 ((List.map (eInt .i64) v83).length))), (4, .one (.d (.int .i64 v84)))]) s.1 s.2.1 s.2.2) (fun s => (fun (v82 : List Int) (v83 : List Int) (v84 : Int) => [(200001, .expl true 104 3 [[.d (.int .u8 t_68.slot), .d (.int .u8 t_68.start), .d (.sl (List.map TCall.enc t_68.calls))]]), (200002, .pure true 3 1 (List.map (eInt .i64) v82)), (200003, .pure true 3 1 (List.map (eInt .i64) v83))]) s.1 s.2.1 s.2.2) (fun (s : ((List Int) × (List Int) × Int)) N99 => L68_1 t_68 K s.1 s.2.1 s.2.2 N99) (N := fun s => LoopW (fun (s : ((List Int) × (List Int) × Int)) N99 => L68_1 t_68 K s.1 s.2.1 s.2.2 N99) s) (Lab.mk ([], [], 0) [(200001, some 1), (200002, none), (200003, none)] (by kernel_rfl) (by kernel_rfl) (by kernel_rfl) (by kernel_rfl) h) (fun _ h => h) ?_
  rintro ⟨v82, v83, v84⟩ N99 h
  have h : L68_1 t_68 K v82 v83 v84 N99 := h
  unfold L68_1 at h
  refine AW.seq ?_
  refine AW.sregL [(0, none), (1, none), (2, none), (3, none), (4, none)] (by kernel_rfl) ?_
  refine l_det (some 10) (.one (.d (.int .i64 v84)), []) (by kernel_rfl) ?_
  refine l_det (some 11) (.one (.ref 200001 0 0 2), []) (by kernel_rfl) ?_
  refine l_det (some 12) (.one (.d (.sl (List.map TCall.enc t_68.calls))), []) (by kernel_rfl) ?_
  refine l_spec (some 13) (.lens (.t 12)) (.one (.d (.int .i64 (t_68.calls.length : Int))), []) (by kernel_rfl) (detA_none (d_lens_sl (enc := TCall.enc) t_68.calls (by kernel_rfl))) ?_
  refine l_det (some 14) (.one (.d (.bool (decide (v84 < (t_68.calls.length : Int))))), []) (by kernel_rfl) ?_
  refine l_nil ?_
  refine AW.cond' (by kernel_rfl) h (fun h => ?_) (fun h => ?_)
  · refine AW.skip ?_
    refine q_fall ?_
    refine AW.seq ?_
    refine AW.blk ?_
    refine AW.sregL [(0, none), (1, none), (2, none), (3, none), (4, none), (5, none), (6, none)] (by kernel_rfl) ?_
    refine l_det (some 17) (.one (.ref 200001 0 0 2), []) (by kernel_rfl) ?_
    refine l_det (some 18) (.one (.d (.sl (List.map TCall.enc t_68.calls))), []) (by kernel_rfl) ?_
    refine l_det (some 19) (.one (.d (.int .i64 v84)), []) (by kernel_rfl) ?_
    obtain ⟨h153, x108, h154, h⟩ := h
    refine l_spec (some 20) (.iad 11 (.t 18) (.t 19)) (.one (.d (.ptr [.int .u8 x108.parent, .int .u8 x108.clock, .int .u8 x108.kind, .int .u8 x108.service, .int .u8 x108.version, .int .u8 x108.operation, .int .u8 x108.wait, .int .u8 x108.long, .int .u8 x108.link, .int .u8 x108.tag, .bool x108.fail])), []) (by kernel_rfl) (detA_none (d_iad_sl (enc := TCall.enc) (k := .i64) t_68.calls x108 (by kernel_rfl) (by kernel_rfl) h153 h154 rfl)) ?_
    refine l_det (some 21) (.agg [.d (.int .u8 x108.parent), .d (.int .u8 x108.clock), .d (.int .u8 x108.kind), .d (.int .u8 x108.service), .d (.int .u8 x108.version), .d (.int .u8 x108.operation), .d (.int .u8 x108.wait), .d (.int .u8 x108.long), .d (.int .u8 x108.link), .d (.int .u8 x108.tag), .d (.bool x108.fail)], []) (by kernel_rfl) ?_
    refine l_det (some 5) (.one (.ref 5 1 0 0), [(5, 1, .row true 153 11 [[.d (.int .u8 0), .d (.int .u8 0), .d (.int .u8 0), .d (.int .u8 0), .d (.int .u8 0), .d (.int .u8 0), .d (.int .u8 0), .d (.int .u8 0), .d (.int .u8 0), .d (.int .u8 0), .d (.bool false)]])]) (by kernel_rfl) ?_
    refine l_det none (.tup [], [(5, 1, .row true 153 11 [[.d (.int .u8 x108.parent), .d (.int .u8 x108.clock), .d (.int .u8 x108.kind), .d (.int .u8 x108.service), .d (.int .u8 x108.version), .d (.int .u8 x108.operation), .d (.int .u8 x108.wait), .d (.int .u8 x108.long), .d (.int .u8 x108.link), .d (.int .u8 x108.tag), .d (.bool x108.fail)]])]) (by kernel_rfl) ?_
    refine l_nil ?_
    refine AW.sregL [(0, none), (1, none), (2, none), (3, none), (4, none), (5, none)] (by kernel_rfl) ?_
    refine l_det (some 22) (.one (.ref 200001 0 0 1), []) (by kernel_rfl) ?_
    refine l_det (some 23) (.one (.d (.int .u8 t_68.start)), []) (by kernel_rfl) ?_
    refine l_det (some 24) (.one (.d (.int .u8 (Int.tmod t_68.start 32))), []) (by kernel_rfl) ?_
    refine l_det (some 25) (.one (.d (.int .i64 (w64 (Int.tmod t_68.start 32)))), []) (by kernel_rfl) ?_
    refine l_det (some 26) (.one (.d (.int .i64 (w64 (1000 + (w64 (Int.tmod t_68.start 32)))))), []) (by kernel_rfl) ?_
    refine l_det (some 6) (.one (.d (.int .i64 (w64 (1000 + (w64 (Int.tmod t_68.start 32)))))), []) (by kernel_rfl) ?_
    refine l_nil ?_
    refine AW.seqL (S := Int) (fun s => (fun (v111 : Int) => [(1, .one (.ref 200001 0 0 0)), (2, .one (.view 200002 0 0 ((List.map (eInt .i64) v82).length))), (3, .one (.view 200003 0 0 ((List.map (eInt .i64) v83).length))), (4, .one (.d (.int .i64 v84))), (5, .one (.ref 200004 0 0 0)), (6, .one (.d (.int .i64 v111)))]) s) (fun s => (fun (v111 : Int) => [(200001, .expl true 104 3 [[.d (.int .u8 t_68.slot), .d (.int .u8 t_68.start), .d (.sl (List.map TCall.enc t_68.calls))]]), (200002, .pure true 3 1 (List.map (eInt .i64) v82)), (200003, .pure true 3 1 (List.map (eInt .i64) v83)), (200004, .expl true 153 11 [[.d (.int .u8 x108.parent), .d (.int .u8 x108.clock), .d (.int .u8 x108.kind), .d (.int .u8 x108.service), .d (.int .u8 x108.version), .d (.int .u8 x108.operation), .d (.int .u8 x108.wait), .d (.int .u8 x108.long), .d (.int .u8 x108.link), .d (.int .u8 x108.tag), .d (.bool x108.fail)]])]) s) (fun s : Int => J68_2 v84 v82 v83 x108 N99 s) ?_ ?_
    · refine AW.sregL [(0, none), (1, none), (2, none), (3, none), (4, none), (5, none), (6, none)] (by kernel_rfl) ?_
      refine l_det (some 27) (.one (.ref 5 1 0 0), []) (by kernel_rfl) ?_
      refine l_det (some 28) (.one (.d (.int .u8 x108.parent)), []) (by kernel_rfl) ?_
      refine l_det (some 29) (.one (.d (.int .i64 (w64 x108.parent))), []) (by kernel_rfl) ?_
      refine l_det (some 30) (.one (.d (.int .i64 v84)), []) (by kernel_rfl) ?_
      refine l_det (some 31) (.one (.d (.int .i64 (w64 (v84 + 1)))), []) (by kernel_rfl) ?_
      obtain ⟨h166, h⟩ := h
      refine l_spec (some 32) (.bin .rem (.t 29) (.t 31)) (.one (.d (.int .i64 (Int.tmod (w64 x108.parent) (w64 (v84 + 1))))), []) (by kernel_rfl) (detA_none (d_rem (w64 x108.parent) (w64 (v84 + 1)) (by kernel_rfl) (by kernel_rfl) h166)) ?_
      refine l_det (some 7) (.one (.d (.int .i64 (Int.tmod (w64 x108.parent) (w64 (v84 + 1))))), []) (by kernel_rfl) ?_
      refine l_nil ?_
      refine AW.sregL [(0, none), (1, none), (2, none)] (by kernel_rfl) ?_
      refine l_det (some 33) (.one (.d (.int .i64 (Int.tmod (w64 x108.parent) (w64 (v84 + 1))))), []) (by kernel_rfl) ?_
      refine l_det (some 34) (.one (.d (.int .i64 v84)), []) (by kernel_rfl) ?_
      refine l_det (some 35) (.one (.d (.bool (decide ((Int.tmod (w64 x108.parent) (w64 (v84 + 1))) < v84)))), []) (by kernel_rfl) ?_
      refine l_nil ?_
      refine AW.cond' (by kernel_rfl) h (fun h => ?_) (fun h => ?_)
      · refine AW.regL [(0, none), (1, none), (2, none), (3, none), (4, none)] (by kernel_rfl) ?_
        refine l_det (some 36) (.one (.view 200002 0 0 ((List.map (eInt .i64) v82).length)), []) (by kernel_rfl) ?_
        refine l_det (some 37) (.one (.d (.int .i64 (Int.tmod (w64 x108.parent) (w64 (v84 + 1))))), []) (by kernel_rfl) ?_
        obtain ⟨h167, x113, h168, h⟩ := h
        refine l_spec (some 38) (.iad 1 (.t 36) (.t 37)) (.one (.ref 200002 0 ((Int.tmod (w64 x108.parent) (w64 (v84 + 1))).toNat) 0), []) (by kernel_rfl) (detA_none (d_iad_v (enc := (eInt .i64)) (k := .i64) (E := 3) (l := true) (ys := dmm (List.map (eInt .i64) v82)) v82 x113 (by kernel_rfl) (by kernel_rfl) (by kernel_rfl) (by kernel_rfl) h167 h168)) ?_
        refine l_spec (some 39) (.ld false 1 (.t 38)) (.one (.d (.int .i64 x113)), []) (by kernel_rfl) (detA_none (d_ld_row (enc := (eInt .i64)) (o := 200002) (g := 0) (i := ((Int.tmod (w64 x108.parent) (w64 (v84 + 1))).toNat)) (off := 0) (E := 3) (sz := 1) (l := true) v82 x113 (by kernel_rfl) (by kernel_rfl) (by kernel_rfl) h168 (by kernel_rfl))) ?_
        refine l_det (some 6) (.one (.d (.int .i64 x113)), []) (by kernel_rfl) ?_
        refine l_nil ?_
        refine q_fall ?_
        exact Lab.mk x113 [(200001, some 200001), (200002, some 200002), (200003, some 200003), (200004, some 5)] (by kernel_rfl) (by kernel_rfl) (by kernel_rfl) (by kernel_rfl) h
      · refine AW.skip ?_
        refine q_fall ?_
        exact Lab.mk (w64 (1000 + (w64 (Int.tmod t_68.start 32)))) [(200001, some 200001), (200002, some 200002), (200003, some 200003), (200004, some 5)] (by kernel_rfl) (by kernel_rfl) (by kernel_rfl) (by kernel_rfl) h
    · rintro v111 h
      have h : J68_2 v84 v82 v83 x108 N99 v111 := h
      unfold J68_2 at h
      refine AW.seqL (S := Int) (fun s => (fun (v112 : Int) => [(1, .one (.ref 200001 0 0 0)), (2, .one (.view 200002 0 0 ((List.map (eInt .i64) v82).length))), (3, .one (.view 200003 0 0 ((List.map (eInt .i64) v83).length))), (4, .one (.d (.int .i64 v84))), (5, .one (.ref 200004 0 0 0)), (6, .one (.d (.int .i64 v112)))]) s) (fun s => (fun (v112 : Int) => [(200001, .expl true 104 3 [[.d (.int .u8 t_68.slot), .d (.int .u8 t_68.start), .d (.sl (List.map TCall.enc t_68.calls))]]), (200002, .pure true 3 1 (List.map (eInt .i64) v82)), (200003, .pure true 3 1 (List.map (eInt .i64) v83)), (200004, .expl true 153 11 [[.d (.int .u8 x108.parent), .d (.int .u8 x108.clock), .d (.int .u8 x108.kind), .d (.int .u8 x108.service), .d (.int .u8 x108.version), .d (.int .u8 x108.operation), .d (.int .u8 x108.wait), .d (.int .u8 x108.long), .d (.int .u8 x108.link), .d (.int .u8 x108.tag), .d (.bool x108.fail)]])]) s) (fun s : Int => J68_3 v82 v83 x108 N99 v84 s) ?_ ?_
      · refine AW.sregL [(0, none), (1, none)] (by kernel_rfl) ?_
        refine l_det (some 40) (.one (.d (.int .i64 v84)), []) (by kernel_rfl) ?_
        refine l_det (some 41) (.one (.d (.bool (decide (v84 > 0)))), []) (by kernel_rfl) ?_
        refine l_nil ?_
        refine AW.cond' (by kernel_rfl) h (fun h => ?_) (fun h => ?_)
        · refine AW.regL [(0, none), (1, none), (2, none), (3, none), (4, none), (5, none), (6, none)] (by kernel_rfl) ?_
          refine l_det (some 42) (.one (.d (.int .i64 v111)), []) (by kernel_rfl) ?_
          refine l_det (some 43) (.one (.ref 200004 0 0 6), []) (by kernel_rfl) ?_
          refine l_det (some 44) (.one (.d (.int .u8 x108.wait)), []) (by kernel_rfl) ?_
          refine l_det (some 45) (.one (.d (.int .u8 (Int.tmod x108.wait 32))), []) (by kernel_rfl) ?_
          refine l_det (some 46) (.one (.d (.int .i64 (w64 (Int.tmod x108.wait 32)))), []) (by kernel_rfl) ?_
          refine l_det (some 47) (.one (.d (.int .i64 (w64 (v111 + (w64 (Int.tmod x108.wait 32)))))), []) (by kernel_rfl) ?_
          refine l_det (some 6) (.one (.d (.int .i64 (w64 (v111 + (w64 (Int.tmod x108.wait 32)))))), []) (by kernel_rfl) ?_
          refine l_nil ?_
          refine q_fall ?_
          exact Lab.mk (w64 (v111 + (w64 (Int.tmod x108.wait 32)))) [(200001, some 200001), (200002, some 200002), (200003, some 200003), (200004, some 200004)] (by kernel_rfl) (by kernel_rfl) (by kernel_rfl) (by kernel_rfl) h
        · refine AW.skip ?_
          refine q_fall ?_
          exact Lab.mk v111 [(200001, some 200001), (200002, some 200002), (200003, some 200003), (200004, some 200004)] (by kernel_rfl) (by kernel_rfl) (by kernel_rfl) (by kernel_rfl) h
      · rintro v112 h
        have h : J68_3 v82 v83 x108 N99 v84 v112 := h
        unfold J68_3 at h
        refine AW.regdL follows_mixed [[], [], [1], [0, 1, 2], [], [], [], [6], [6, 7], [6, 7, 8], [5, 6, 7, 8, 9], [5, 6, 7, 8, 9, 10], [0, 1, 2, 3, 4, 5, 6, 7, 8, 9, 10, 11], [0, 1, 2, 3, 4, 5, 6, 7, 8, 9, 10, 11, 12], [0, 1, 2, 3, 4, 5, 6, 7, 8, 9, 10, 11, 12, 13]] [(0, none), (1, none), (4, none), (5, none), (6, none), (7, some [55, 1000005, 1200004]), (8, none), (9, none), (10, none), (2, some [50]), (3, some [51, 200002, 1000050]), (11, some [59]), (12, none), (13, none), (14, none)] (by kernel_rfl) ?_
        refine l_det (some 48) (.one (.view 200002 0 0 ((List.map (eInt .i64) v82).length)), []) (by kernel_rfl) ?_
        refine l_det (some 49) (.one (.d (.int .i64 v112)), []) (by kernel_rfl) ?_
        refine l_det (some 52) (.one (.view 200003 0 0 ((List.map (eInt .i64) v83).length)), []) (by kernel_rfl) ?_
        refine l_det (some 53) (.one (.d (.int .i64 v112)), []) (by kernel_rfl) ?_
        refine l_det (some 54) (.one (.ref 200004 0 0 7), []) (by kernel_rfl) ?_
        refine l_det (some 55) (.one (.d (.int .u8 x108.long)), []) (by kernel_rfl) ?_
        refine l_det (some 56) (.one (.d (.int .u8 (Int.tmod x108.long 32))), []) (by kernel_rfl) ?_
        refine l_det (some 57) (.one (.d (.int .i64 (w64 (Int.tmod x108.long 32)))), []) (by kernel_rfl) ?_
        refine l_det (some 58) (.one (.d (.int .i64 (w64 (v112 + (w64 (Int.tmod x108.long 32)))))), []) (by kernel_rfl) ?_
        refine l_det (some 50) (.one (.view 50 1 0 1), [(50, 1, .row true 3 1 [[.d (.int .i64 v112)]])]) (by kernel_rfl) ?_
        obtain ⟨h163, h⟩ := h
        refine l_spec (some 51) (.app 3 1 8 [.int .i64 0] (.t 48) (.t 50)) (.one (.view 200002 1 0 ((List.map (eInt .i64) (v82 ++ [v112])).length)), [(200002, 1, .row true 3 1 (dmm (List.map (eInt .i64) (v82 ++ [v112]))))]) (by kernel_rfl) (detA_some (d_app_v (enc := (eInt .i64)) (xc := .view 50 1 0 1) v82 [v112] (by kernel_rfl) (by kernel_rfl) (by kernel_rfl) (by kernel_rfl) (by kernel_rfl) h163 (by kernel_rfl)) (by kernel_rfl)) ?_
        refine l_det (some 59) (.one (.view 59 1 0 1), [(59, 1, .row true 3 1 [[.d (.int .i64 (w64 (v112 + (w64 (Int.tmod x108.long 32)))))]])]) (by kernel_rfl) ?_
        obtain ⟨h164, h⟩ := h
        refine l_spec (some 60) (.app 3 1 8 [.int .i64 0] (.t 52) (.t 59)) (.one (.view 200003 1 0 ((List.map (eInt .i64) (v83 ++ [(w64 (v112 + (w64 (Int.tmod x108.long 32))))])).length)), [(200003, 1, .row true 3 1 (dmm (List.map (eInt .i64) (v83 ++ [(w64 (v112 + (w64 (Int.tmod x108.long 32))))]))))]) (by kernel_rfl) (detA_none (d_app_v (enc := (eInt .i64)) (xc := .view 59 1 0 1) v83 [(w64 (v112 + (w64 (Int.tmod x108.long 32))))] (by kernel_rfl) (by kernel_rfl) (by kernel_rfl) (by kernel_rfl) (by kernel_rfl) h164 (by kernel_rfl))) ?_
        refine l_det (some 2) (.one (.view 200002 1 0 ((List.map (eInt .i64) (v82 ++ [v112])).length)), []) (by kernel_rfl) ?_
        refine l_det (some 3) (.one (.view 200003 1 0 ((List.map (eInt .i64) (v83 ++ [(w64 (v112 + (w64 (Int.tmod x108.long 32))))])).length)), []) (by kernel_rfl) ?_
        refine l_nil ?_
        refine q_bfall ?_
        refine q_fall ?_
        refine AW.regL [(0, none), (1, none), (2, none)] (by kernel_rfl) ?_
        refine l_det (some 15) (.one (.d (.int .i64 v84)), []) (by kernel_rfl) ?_
        refine l_det (some 16) (.one (.d (.int .i64 (w64 (v84 + 1)))), []) (by kernel_rfl) ?_
        refine l_det (some 4) (.one (.d (.int .i64 (w64 (v84 + 1)))), []) (by kernel_rfl) ?_
        refine l_nil ?_
        refine q_fall ?_
        exact Lab.mk ((v82 ++ [v112]), (v83 ++ [(w64 (v112 + (w64 (Int.tmod x108.long 32))))]), (w64 (v84 + 1))) [(200001, some 200001), (200002, some 200002), (200003, some 200003)] (by kernel_rfl) (by kernel_rfl) (by kernel_rfl) (by kernel_rfl) h
  · refine AW.exit ?_
    refine q_exit ?_
    refine q_exit ?_
    refine q_bhere ?_
    refine q_fall ?_
    refine AW.seq ?_
    refine AW.sregL [(0, none), (1, none), (2, none), (3, none), (4, none)] (by kernel_rfl) ?_
    refine l_det (some 61) (.one (.ref 200001 0 0 2), []) (by kernel_rfl) ?_
    refine l_det (some 62) (.one (.d (.sl (List.map TCall.enc t_68.calls))), []) (by kernel_rfl) ?_
    refine l_spec (some 63) (.lens (.t 62)) (.one (.d (.int .i64 (t_68.calls.length : Int))), []) (by kernel_rfl) (detA_none (d_lens_sl (enc := TCall.enc) t_68.calls (by kernel_rfl))) ?_
    refine l_det (some 64) (.one (.d (.int .i64 (w64 ((t_68.calls.length : Int) - 1)))), []) (by kernel_rfl) ?_
    refine l_det (some 8) (.one (.d (.int .i64 (w64 ((t_68.calls.length : Int) - 1)))), []) (by kernel_rfl) ?_
    refine l_nil ?_
    refine AW.blk ?_
    refine AW.loopL (S := ((List Int) × Int)) (fun s => (fun (v289 : List Int) (v290 : Int) => [(1, .one (.ref 200001 0 0 0)), (2, .one (.view 200002 0 0 ((List.map (eInt .i64) v82).length))), (3, .one (.view 200003 0 0 ((List.map (eInt .i64) v289).length))), (8, .one (.d (.int .i64 v290)))]) s.1 s.2) (fun s => (fun (v289 : List Int) (v290 : Int) => [(200001, .expl true 104 3 [[.d (.int .u8 t_68.slot), .d (.int .u8 t_68.start), .d (.sl (List.map TCall.enc t_68.calls))]]), (200002, .pure true 3 1 (List.map (eInt .i64) v82)), (200003, .pure true 3 1 (List.map (eInt .i64) v289))]) s.1 s.2) (fun (s : ((List Int) × Int)) N334 => L68_4 t_68 K v82 s.1 s.2 N334) (N := fun s => LoopW (fun (s : ((List Int) × Int)) N334 => L68_4 t_68 K v82 s.1 s.2 N334) s) (Lab.mk (v83, (w64 ((t_68.calls.length : Int) - 1))) [(200001, some 200001), (200002, some 200002), (200003, some 200003)] (by kernel_rfl) (by kernel_rfl) (by kernel_rfl) (by kernel_rfl) h) (fun _ h => h) ?_
    rintro ⟨v289, v290⟩ N334 h
    have h : L68_4 t_68 K v82 v289 v290 N334 := h
    unfold L68_4 at h
    refine AW.seq ?_
    refine AW.sregL [(0, none), (1, none)] (by kernel_rfl) ?_
    refine l_det (some 65) (.one (.d (.int .i64 v290)), []) (by kernel_rfl) ?_
    refine l_det (some 66) (.one (.d (.bool (decide (v290 > 0)))), []) (by kernel_rfl) ?_
    refine l_nil ?_
    refine AW.cond' (by kernel_rfl) h (fun h => ?_) (fun h => ?_)
    · refine AW.skip ?_
      refine q_fall ?_
      refine AW.seqL (S := (List Int)) (fun s => (fun (v363 : List Int) => [(1, .one (.ref 200001 0 0 0)), (2, .one (.view 200002 0 0 ((List.map (eInt .i64) v82).length))), (3, .one (.view 200003 0 0 ((List.map (eInt .i64) v363).length))), (8, .one (.d (.int .i64 v290)))]) s) (fun s => (fun (v363 : List Int) => [(200001, .expl true 104 3 [[.d (.int .u8 t_68.slot), .d (.int .u8 t_68.start), .d (.sl (List.map TCall.enc t_68.calls))]]), (200002, .pure true 3 1 (List.map (eInt .i64) v82)), (200003, .pure true 3 1 (List.map (eInt .i64) v363))]) s) (fun s : (List Int) => J68_5 N334 v290 s) ?_ ?_
      · refine AW.blk ?_
        refine AW.sregL [(0, none), (1, none), (2, none), (3, none), (4, none), (5, none), (6, none), (7, none), (8, none), (9, none), (10, none)] (by kernel_rfl) ?_
        refine l_det (some 69) (.one (.ref 200001 0 0 2), []) (by kernel_rfl) ?_
        refine l_det (some 70) (.one (.d (.sl (List.map TCall.enc t_68.calls))), []) (by kernel_rfl) ?_
        refine l_det (some 71) (.one (.d (.int .i64 v290)), []) (by kernel_rfl) ?_
        obtain ⟨h563, x365, h564, h⟩ := h
        refine l_spec (some 72) (.iad 11 (.t 70) (.t 71)) (.one (.d (.ptr [.int .u8 x365.parent, .int .u8 x365.clock, .int .u8 x365.kind, .int .u8 x365.service, .int .u8 x365.version, .int .u8 x365.operation, .int .u8 x365.wait, .int .u8 x365.long, .int .u8 x365.link, .int .u8 x365.tag, .bool x365.fail])), []) (by kernel_rfl) (detA_none (d_iad_sl (enc := TCall.enc) (k := .i64) t_68.calls x365 (by kernel_rfl) (by kernel_rfl) h563 h564 rfl)) ?_
        refine l_det (some 73) (.one (.d (.ptr [.int .u8 x365.parent, .int .u8 x365.clock, .int .u8 x365.kind, .int .u8 x365.service, .int .u8 x365.version, .int .u8 x365.operation, .int .u8 x365.wait, .int .u8 x365.long, .int .u8 x365.link, .int .u8 x365.tag, .bool x365.fail])), []) (by kernel_rfl) ?_
        refine l_det (some 74) (.one (.d (.int .u8 x365.parent)), []) (by kernel_rfl) ?_
        refine l_det (some 75) (.one (.d (.int .i64 (w64 x365.parent))), []) (by kernel_rfl) ?_
        refine l_det (some 76) (.one (.d (.int .i64 v290)), []) (by kernel_rfl) ?_
        refine l_det (some 77) (.one (.d (.int .i64 (w64 (v290 + 1)))), []) (by kernel_rfl) ?_
        obtain ⟨h565, h⟩ := h
        refine l_spec (some 78) (.bin .rem (.t 75) (.t 77)) (.one (.d (.int .i64 (Int.tmod (w64 x365.parent) (w64 (v290 + 1))))), []) (by kernel_rfl) (detA_none (d_rem (w64 x365.parent) (w64 (v290 + 1)) (by kernel_rfl) (by kernel_rfl) h565)) ?_
        refine l_det (some 9) (.one (.d (.int .i64 (Int.tmod (w64 x365.parent) (w64 (v290 + 1))))), []) (by kernel_rfl) ?_
        refine l_nil ?_
        refine AW.seqL (S := Bool) (fun s => (fun (v372 : Bool) => [(1, .one (.ref 200001 0 0 0)), (2, .one (.view 200002 0 0 ((List.map (eInt .i64) v82).length))), (3, .one (.view 200003 0 0 ((List.map (eInt .i64) v289).length))), (8, .one (.d (.int .i64 v290))), (9, .one (.d (.int .i64 (Int.tmod (w64 x365.parent) (w64 (v290 + 1)))))), (108, .one (.d (.bool v372)))]) s) (fun s => (fun (v372 : Bool) => [(200001, .expl true 104 3 [[.d (.int .u8 t_68.slot), .d (.int .u8 t_68.start), .d (.sl (List.map TCall.enc t_68.calls))]]), (200002, .pure true 3 1 (List.map (eInt .i64) v82)), (200003, .pure true 3 1 (List.map (eInt .i64) v289))]) s) (fun s : Bool => J68_6 v289 x365 v290 N334 s) ?_ ?_
        · refine AW.regL [(0, none), (1, none), (2, none), (3, none), (4, none), (5, none), (6, none), (7, none), (8, none), (9, none), (10, none), (11, none), (12, none), (13, none), (14, none), (15, none), (16, none), (17, none), (18, none), (19, none), (20, none), (21, none), (22, none), (23, none), (24, none), (25, none), (26, none), (27, none), (28, none), (29, none)] (by kernel_rfl) ?_
          refine l_det (some 79) (.one (.d (.int .i64 (Int.tmod (w64 x365.parent) (w64 (v290 + 1))))), []) (by kernel_rfl) ?_
          refine l_det (some 80) (.one (.d (.int .i64 v290)), []) (by kernel_rfl) ?_
          refine l_det (some 81) (.one (.d (.bool (decide ((Int.tmod (w64 x365.parent) (w64 (v290 + 1))) < v290)))), []) (by kernel_rfl) ?_
          refine l_det (some 82) (.one (.d (.bool (decide ((Int.tmod (w64 x365.parent) (w64 (v290 + 1))) < v290)))), []) (by kernel_rfl) ?_
          refine l_split (s := 82) (by kernel_rfl) h (fun h => ?_) (fun h => ?_)
          · refine l_det (some 83) (.one (.ref 200001 0 0 2), []) (by kernel_rfl) ?_
            refine l_det (some 84) (.one (.d (.sl (List.map TCall.enc t_68.calls))), []) (by kernel_rfl) ?_
            refine l_det (some 85) (.one (.d (.int .i64 v290)), []) (by kernel_rfl) ?_
            refine l_spec (some 86) (.iad 11 (.t 84) (.t 85)) (.one (.d (.ptr [.int .u8 x365.parent, .int .u8 x365.clock, .int .u8 x365.kind, .int .u8 x365.service, .int .u8 x365.version, .int .u8 x365.operation, .int .u8 x365.wait, .int .u8 x365.long, .int .u8 x365.link, .int .u8 x365.tag, .bool x365.fail])), []) (by kernel_rfl) (detA_none (d_iad_sl (enc := TCall.enc) (k := .i64) t_68.calls x365 (by kernel_rfl) (by kernel_rfl) h563 h564 rfl)) ?_
            refine l_det (some 87) (.agg [.d (.int .u8 x365.parent), .d (.int .u8 x365.clock), .d (.int .u8 x365.kind), .d (.int .u8 x365.service), .d (.int .u8 x365.version), .d (.int .u8 x365.operation), .d (.int .u8 x365.wait), .d (.int .u8 x365.long), .d (.int .u8 x365.link), .d (.int .u8 x365.tag), .d (.bool x365.fail)], []) (by kernel_rfl) ?_
            refine l_call ok83 en83 (some 88) [.agg [.d (.int .u8 x365.parent), .d (.int .u8 x365.clock), .d (.int .u8 x365.kind), .d (.int .u8 x365.service), .d (.int .u8 x365.version), .d (.int .u8 x365.operation), .d (.int .u8 x365.wait), .d (.int .u8 x365.long), .d (.int .u8 x365.link), .d (.int .u8 x365.tag), .d (.bool x365.fail)]] [false] [.agg (List.map RC.d [.int .u8 x365.parent, .int .u8 x365.clock, .int .u8 x365.kind, .int .u8 x365.service, .int .u8 x365.version, .int .u8 x365.operation, .int .u8 x365.wait, .int .u8 x365.long, .int .u8 x365.link, .int .u8 x365.tag, .bool x365.fail])] [] (by kernel_rfl) ⟨by kernel_rfl, by kernel_rfl⟩ (by kernel_rfl) (by kernel_rfl) (by kernel_rfl) (cl83 x365 h) ?_
            rintro hR _ _ ⟨r375, rfl, rfl, h⟩
            refine ⟨false, (.one (.d (.int .i64 r375)), []), (fun hz => (by cases hz)), (ret_R hR (by kernel_rfl)), ?_⟩
            refine l_det (some 89) (.one (.d (.bool (decide (r375 = 3)))), []) (by kernel_rfl) ?_
            refine l_det (some 90) (.one (.d (.bool (decide (r375 = 3)))), []) (by kernel_rfl) ?_
            refine l_det (some 91) (.one (.d (.bool (decide (r375 = 3)))), []) (by kernel_rfl) ?_
            refine l_split (s := 91) (by kernel_rfl) h (fun h => ?_) (fun h => ?_)
            · refine l_det (some 92) (.one (.ref 200001 0 0 2), []) (by kernel_rfl) ?_
              refine l_det (some 93) (.one (.d (.sl (List.map TCall.enc t_68.calls))), []) (by kernel_rfl) ?_
              refine l_det (some 94) (.one (.d (.int .i64 (Int.tmod (w64 x365.parent) (w64 (v290 + 1))))), []) (by kernel_rfl) ?_
              obtain ⟨h580, x376, h581, h⟩ := h
              refine l_spec (some 95) (.iad 11 (.t 93) (.t 94)) (.one (.d (.ptr [.int .u8 x376.parent, .int .u8 x376.clock, .int .u8 x376.kind, .int .u8 x376.service, .int .u8 x376.version, .int .u8 x376.operation, .int .u8 x376.wait, .int .u8 x376.long, .int .u8 x376.link, .int .u8 x376.tag, .bool x376.fail])), []) (by kernel_rfl) (detA_none (d_iad_sl (enc := TCall.enc) (k := .i64) t_68.calls x376 (by kernel_rfl) (by kernel_rfl) h580 h581 rfl)) ?_
              refine l_det (some 96) (.agg [.d (.int .u8 x376.parent), .d (.int .u8 x376.clock), .d (.int .u8 x376.kind), .d (.int .u8 x376.service), .d (.int .u8 x376.version), .d (.int .u8 x376.operation), .d (.int .u8 x376.wait), .d (.int .u8 x376.long), .d (.int .u8 x376.link), .d (.int .u8 x376.tag), .d (.bool x376.fail)], []) (by kernel_rfl) ?_
              refine l_call ok83 en83 (some 97) [.agg [.d (.int .u8 x376.parent), .d (.int .u8 x376.clock), .d (.int .u8 x376.kind), .d (.int .u8 x376.service), .d (.int .u8 x376.version), .d (.int .u8 x376.operation), .d (.int .u8 x376.wait), .d (.int .u8 x376.long), .d (.int .u8 x376.link), .d (.int .u8 x376.tag), .d (.bool x376.fail)]] [false] [.agg (List.map RC.d [.int .u8 x376.parent, .int .u8 x376.clock, .int .u8 x376.kind, .int .u8 x376.service, .int .u8 x376.version, .int .u8 x376.operation, .int .u8 x376.wait, .int .u8 x376.long, .int .u8 x376.link, .int .u8 x376.tag, .bool x376.fail])] [] (by kernel_rfl) ⟨by kernel_rfl, by kernel_rfl⟩ (by kernel_rfl) (by kernel_rfl) (by kernel_rfl) (cl83 x376 h) ?_
              rintro hR _ _ ⟨r377, rfl, rfl, h⟩
              refine ⟨false, (.one (.d (.int .i64 r377)), []), (fun hz => (by cases hz)), (ret_R hR (by kernel_rfl)), ?_⟩
              refine l_det (some 98) (.one (.d (.bool (decide (r377 = 2)))), []) (by kernel_rfl) ?_
              refine l_det (some 99) (.one (.d (.bool (decide (r377 = 2)))), []) (by kernel_rfl) ?_
              refine l_det (some 100) (.one (.d (.bool (decide (r377 = 2)))), []) (by kernel_rfl) ?_
              refine l_split (s := 100) (by kernel_rfl) h (fun h => ?_) (fun h => ?_)
              · refine l_det (some 101) (.one (.ref 200001 0 0 2), []) (by kernel_rfl) ?_
                refine l_det (some 102) (.one (.d (.sl (List.map TCall.enc t_68.calls))), []) (by kernel_rfl) ?_
                refine l_det (some 103) (.one (.d (.int .i64 (Int.tmod (w64 x365.parent) (w64 (v290 + 1))))), []) (by kernel_rfl) ?_
                refine l_spec (some 104) (.iad 11 (.t 102) (.t 103)) (.one (.d (.ptr [.int .u8 x376.parent, .int .u8 x376.clock, .int .u8 x376.kind, .int .u8 x376.service, .int .u8 x376.version, .int .u8 x376.operation, .int .u8 x376.wait, .int .u8 x376.long, .int .u8 x376.link, .int .u8 x376.tag, .bool x376.fail])), []) (by kernel_rfl) (detA_none (d_iad_sl (enc := TCall.enc) (k := .i64) t_68.calls x376 (by kernel_rfl) (by kernel_rfl) h580 h581 rfl)) ?_
                refine l_det (some 105) (.one (.d (.ptr [.bool x376.fail])), []) (by kernel_rfl) ?_
                refine l_det (some 106) (.one (.d (.bool x376.fail)), []) (by kernel_rfl) ?_
                refine l_det (some 107) (.one (.d (.bool (!x376.fail))), []) (by kernel_rfl) ?_
                refine l_det (some 108) (.one (.d (.bool (!x376.fail))), []) (by kernel_rfl) ?_
                refine l_nil ?_
                refine q_fall ?_
                exact Lab.mk (!x376.fail) [(200001, some 200001), (200002, some 200002), (200003, some 200003)] (by kernel_rfl) (by kernel_rfl) (by kernel_rfl) (by kernel_rfl) h
              · refine l_det (some 101) (.tup [], []) (by kernel_rfl) ?_
                refine l_det (some 102) (.tup [], []) (by kernel_rfl) ?_
                refine l_det (some 103) (.tup [], []) (by kernel_rfl) ?_
                refine l_det (some 104) (.tup [], []) (by kernel_rfl) ?_
                refine l_det (some 105) (.tup [], []) (by kernel_rfl) ?_
                refine l_det (some 106) (.tup [], []) (by kernel_rfl) ?_
                refine l_det (some 107) (.tup [], []) (by kernel_rfl) ?_
                refine l_det (some 108) (.one (.d (.bool false)), []) (by kernel_rfl) ?_
                refine l_nil ?_
                refine q_fall ?_
                exact Lab.mk false [(200001, some 200001), (200002, some 200002), (200003, some 200003)] (by kernel_rfl) (by kernel_rfl) (by kernel_rfl) (by kernel_rfl) h
            · refine l_det (some 92) (.tup [], []) (by kernel_rfl) ?_
              refine l_det (some 93) (.tup [], []) (by kernel_rfl) ?_
              refine l_det (some 94) (.tup [], []) (by kernel_rfl) ?_
              refine l_det (some 95) (.tup [], []) (by kernel_rfl) ?_
              refine l_det (some 96) (.tup [], []) (by kernel_rfl) ?_
              refine l_skip (some 97) (by kernel_rfl) (by kernel_rfl) (by kernel_rfl) ?_
              refine l_det (some 98) (.tup [], []) (by kernel_rfl) ?_
              refine l_det (some 99) (.one (.d (.bool false)), []) (by kernel_rfl) ?_
              refine l_det (some 100) (.one (.d (.bool false)), []) (by kernel_rfl) ?_
              refine l_det (some 101) (.tup [], []) (by kernel_rfl) ?_
              refine l_det (some 102) (.tup [], []) (by kernel_rfl) ?_
              refine l_det (some 103) (.tup [], []) (by kernel_rfl) ?_
              refine l_det (some 104) (.tup [], []) (by kernel_rfl) ?_
              refine l_det (some 105) (.tup [], []) (by kernel_rfl) ?_
              refine l_det (some 106) (.tup [], []) (by kernel_rfl) ?_
              refine l_det (some 107) (.tup [], []) (by kernel_rfl) ?_
              refine l_det (some 108) (.one (.d (.bool false)), []) (by kernel_rfl) ?_
              refine l_nil ?_
              refine q_fall ?_
              exact Lab.mk false [(200001, some 200001), (200002, some 200002), (200003, some 200003)] (by kernel_rfl) (by kernel_rfl) (by kernel_rfl) (by kernel_rfl) h
          · refine l_det (some 83) (.tup [], []) (by kernel_rfl) ?_
            refine l_det (some 84) (.tup [], []) (by kernel_rfl) ?_
            refine l_det (some 85) (.tup [], []) (by kernel_rfl) ?_
            refine l_det (some 86) (.tup [], []) (by kernel_rfl) ?_
            refine l_det (some 87) (.tup [], []) (by kernel_rfl) ?_
            refine l_skip (some 88) (by kernel_rfl) (by kernel_rfl) (by kernel_rfl) ?_
            refine l_det (some 89) (.tup [], []) (by kernel_rfl) ?_
            refine l_det (some 90) (.one (.d (.bool false)), []) (by kernel_rfl) ?_
            refine l_det (some 91) (.one (.d (.bool false)), []) (by kernel_rfl) ?_
            refine l_det (some 92) (.tup [], []) (by kernel_rfl) ?_
            refine l_det (some 93) (.tup [], []) (by kernel_rfl) ?_
            refine l_det (some 94) (.tup [], []) (by kernel_rfl) ?_
            refine l_det (some 95) (.tup [], []) (by kernel_rfl) ?_
            refine l_det (some 96) (.tup [], []) (by kernel_rfl) ?_
            refine l_skip (some 97) (by kernel_rfl) (by kernel_rfl) (by kernel_rfl) ?_
            refine l_det (some 98) (.tup [], []) (by kernel_rfl) ?_
            refine l_det (some 99) (.one (.d (.bool false)), []) (by kernel_rfl) ?_
            refine l_det (some 100) (.one (.d (.bool false)), []) (by kernel_rfl) ?_
            refine l_det (some 101) (.tup [], []) (by kernel_rfl) ?_
            refine l_det (some 102) (.tup [], []) (by kernel_rfl) ?_
            refine l_det (some 103) (.tup [], []) (by kernel_rfl) ?_
            refine l_det (some 104) (.tup [], []) (by kernel_rfl) ?_
            refine l_det (some 105) (.tup [], []) (by kernel_rfl) ?_
            refine l_det (some 106) (.tup [], []) (by kernel_rfl) ?_
            refine l_det (some 107) (.tup [], []) (by kernel_rfl) ?_
            refine l_det (some 108) (.one (.d (.bool false)), []) (by kernel_rfl) ?_
            refine l_nil ?_
            refine q_fall ?_
            exact Lab.mk false [(200001, some 200001), (200002, some 200002), (200003, some 200003)] (by kernel_rfl) (by kernel_rfl) (by kernel_rfl) (by kernel_rfl) h
        · rintro v372 h
          have h : J68_6 v289 x365 v290 N334 v372 := h
          unfold J68_6 at h
          refine AW.cond' (by kernel_rfl) h (fun h => ?_) (fun h => ?_)
          · refine AW.regdL follows_mixed [[], [], [], [], [2, 3], [2, 3, 4], [], [], [6, 7], [6, 7, 8], [2, 3, 4, 5, 6, 7, 8, 9], [0, 1, 2, 3, 4, 5, 6, 7, 8, 9, 10], [0, 1, 2, 3, 4, 5, 6, 7, 8, 9, 10, 11]] [(0, none), (1, none), (2, none), (3, none), (4, none), (5, none), (6, none), (7, none), (8, none), (9, none), (10, none), (11, none), (12, none)] (by kernel_rfl) ?_
            refine l_det (some 109) (.one (.view 200003 0 0 ((List.map (eInt .i64) v289).length)), []) (by kernel_rfl) ?_
            refine l_det (some 110) (.one (.d (.int .i64 (Int.tmod (w64 x365.parent) (w64 (v290 + 1))))), []) (by kernel_rfl) ?_
            refine l_det (some 111) (.one (.view 200003 0 0 ((List.map (eInt .i64) v289).length)), []) (by kernel_rfl) ?_
            refine l_det (some 112) (.one (.d (.int .i64 (Int.tmod (w64 x365.parent) (w64 (v290 + 1))))), []) (by kernel_rfl) ?_
            obtain ⟨h574, x373, h575, h⟩ := h
            refine l_spec (some 113) (.iad 1 (.t 111) (.t 112)) (.one (.ref 200003 0 ((Int.tmod (w64 x365.parent) (w64 (v290 + 1))).toNat) 0), []) (by kernel_rfl) (detA_none (d_iad_v (enc := (eInt .i64)) (k := .i64) (E := 3) (l := true) (ys := dmm (List.map (eInt .i64) v289)) v289 x373 (by kernel_rfl) (by kernel_rfl) (by kernel_rfl) (by kernel_rfl) h574 h575)) ?_
            refine l_spec (some 114) (.ld false 1 (.t 113)) (.one (.d (.int .i64 x373)), []) (by kernel_rfl) (detA_none (d_ld_row (enc := (eInt .i64)) (o := 200003) (g := 0) (i := ((Int.tmod (w64 x365.parent) (w64 (v290 + 1))).toNat)) (off := 0) (E := 3) (sz := 1) (l := true) v289 x373 (by kernel_rfl) (by kernel_rfl) (by kernel_rfl) h575 (by kernel_rfl))) ?_
            refine l_det (some 115) (.one (.view 200003 0 0 ((List.map (eInt .i64) v289).length)), []) (by kernel_rfl) ?_
            refine l_det (some 116) (.one (.d (.int .i64 v290)), []) (by kernel_rfl) ?_
            obtain ⟨h576, x374, h577, h⟩ := h
            refine l_spec (some 117) (.iad 1 (.t 115) (.t 116)) (.one (.ref 200003 0 v290.toNat 0), []) (by kernel_rfl) (detA_none (d_iad_v (enc := (eInt .i64)) (k := .i64) (E := 3) (l := true) (ys := dmm (List.map (eInt .i64) v289)) v289 x374 (by kernel_rfl) (by kernel_rfl) (by kernel_rfl) (by kernel_rfl) h576 h577)) ?_
            refine l_spec (some 118) (.ld false 1 (.t 117)) (.one (.d (.int .i64 x374)), []) (by kernel_rfl) (detA_none (d_ld_row (enc := (eInt .i64)) (o := 200003) (g := 0) (i := v290.toNat) (off := 0) (E := 3) (sz := 1) (l := true) v289 x374 (by kernel_rfl) (by kernel_rfl) (by kernel_rfl) h577 (by kernel_rfl))) ?_
            refine l_det (some 119) (.one (.d (.int .i64 (if x374 > x373 then x374 else x373))), []) (by kernel_rfl) ?_
            refine l_spec (some 120) (.iad 1 (.t 109) (.t 110)) (.one (.ref 200003 0 ((Int.tmod (w64 x365.parent) (w64 (v290 + 1))).toNat) 0), []) (by kernel_rfl) (detA_none (d_iad_v (enc := (eInt .i64)) (k := .i64) (E := 3) (l := true) (ys := dmm (List.map (eInt .i64) v289)) v289 x373 (by kernel_rfl) (by kernel_rfl) (by kernel_rfl) (by kernel_rfl) h574 h575)) ?_
            have h578 := set_get (if x374 > x373 then x374 else x373) h575
            refine l_spec none (.st 1 (.t 120) (.t 119)) (.tup [], [(200003, 0, .row true 3 1 (dmm (List.map (eInt .i64) (List.set v289 ((Int.tmod (w64 x365.parent) (w64 (v290 + 1))).toNat) (if x374 > x373 then x374 else x373)))))]) (by kernel_rfl) (detA_none (d_st_row (enc := (eInt .i64)) (i := ((Int.tmod (w64 x365.parent) (w64 (v290 + 1))).toNat)) (off := 0) (vs := [.d (.int .i64 (if x374 > x373 then x374 else x373))]) v289 x373 (if x374 > x373 then x374 else x373) (by kernel_rfl) (by kernel_rfl) (by kernel_rfl) h575 (by kernel_rfl) (by kernel_rfl) (by kernel_rfl))) ?_
            refine l_renorm 3 (.one (.view 200003 0 0 ((List.map (eInt .i64) (List.set v289 ((Int.tmod (w64 x365.parent) (w64 (v290 + 1))).toNat) (if x374 > x373 then x374 else x373))).length))) (Eq.trans (b := .one (.view 200003 0 0 ((List.map (eInt .i64) v289).length))) (by kernel_rfl) (by simp only [List.length_map, List.length_set, List.length_cons, List.length_nil])) ?_
            refine l_nil ?_
            refine q_bfall ?_
            refine q_fall ?_
            exact Lab.mk (List.set v289 ((Int.tmod (w64 x365.parent) (w64 (v290 + 1))).toNat) (if x374 > x373 then x374 else x373)) [(200001, some 200001), (200002, some 200002), (200003, some 200003)] (by kernel_rfl) (by kernel_rfl) (by kernel_rfl) (by kernel_rfl) h
          · refine AW.skip ?_
            refine q_bfall ?_
            refine q_fall ?_
            exact Lab.mk v289 [(200001, some 200001), (200002, some 200002), (200003, some 200003)] (by kernel_rfl) (by kernel_rfl) (by kernel_rfl) (by kernel_rfl) h
      · rintro v363 h
        have h : J68_5 N334 v290 v363 := h
        unfold J68_5 at h
        refine AW.regL [(0, none), (1, none), (2, none)] (by kernel_rfl) ?_
        refine l_det (some 67) (.one (.d (.int .i64 v290)), []) (by kernel_rfl) ?_
        refine l_det (some 68) (.one (.d (.int .i64 (w64 (v290 - 1)))), []) (by kernel_rfl) ?_
        refine l_det (some 8) (.one (.d (.int .i64 (w64 (v290 - 1)))), []) (by kernel_rfl) ?_
        refine l_nil ?_
        refine q_fall ?_
        exact Lab.mk (v363, (w64 (v290 - 1))) [(200001, some 200001), (200002, some 200002), (200003, some 200003)] (by kernel_rfl) (by kernel_rfl) (by kernel_rfl) (by kernel_rfl) h
    · refine AW.exit ?_
      refine q_exit ?_
      refine q_exit ?_
      refine q_bhere ?_
      refine q_fall ?_
      refine AW.sregL [(0, none), (1, none), (2, none), (3, none)] (by kernel_rfl) ?_
      refine l_det (some 121) (.one (.view 200002 0 0 ((List.map (eInt .i64) v82).length)), []) (by kernel_rfl) ?_
      refine l_det (some 122) (.one (.view 200003 0 0 ((List.map (eInt .i64) v289).length)), []) (by kernel_rfl) ?_
      refine l_det (some 2) (.one (.view 200002 0 0 ((List.map (eInt .i64) v82).length)), []) (by kernel_rfl) ?_
      refine l_det (some 3) (.one (.view 200003 0 0 ((List.map (eInt .i64) v289).length)), []) (by kernel_rfl) ?_
      refine l_nil ?_
      refine AW.ret ?_
      exact q_end [.one (.view 200002 0 0 ((List.map (eInt .i64) v82).length)), .one (.view 200003 0 0 ((List.map (eInt .i64) v289).length))] [false, false] [.one (.d (.sl (List.map (eInt .i64) v82))), .one (.d (.sl (List.map (eInt .i64) v289)))] [] [200002, 200003] (by kernel_rfl) (ps_plain (pv_one (pf_view (E := 3) (sz := 1) (l := true) (List.map (eInt .i64) v82) (by kernel_rfl) (by kernel_rfl) rfl)) (ps_plain (pv_one (pf_view (E := 3) (sz := 1) (l := true) (List.map (eInt .i64) v289) (by kernel_rfl) (by kernel_rfl) rfl)) ps_nil)) (by kernel_rfl) (by kernel_rfl) (by kernel_rfl) (by kernel_rfl) (Eq.mp (by kernel_rfl) (hK (v82, v289) h)) (.inr rfl)
def r84_0 : List AR := [⟨some 1, .box 153 true 11 (.t 0), [], none⟩,
  ⟨some 2, .mov (.c .nils), [], none⟩]
def r84_1 : List AR := [⟨some 4, .fad (.t 1) 9, [], none⟩,
  ⟨some 5, .ld false 1 (.t 4), [0], none⟩,
  ⟨some 6, .bin .quo (.t 5) (.c (.int .u8 4)), [1], none⟩,
  ⟨some 7, .bin .rem (.t 6) (.c (.int .u8 2)), [2], none⟩,
  ⟨some 8, .cvi .i64 (.t 7), [3], none⟩,
  ⟨some 9, .bld [.int .i64 0, .str ⟨#[]⟩, .int .i64 0] [(0, 1, .c (.int .i64 3)), (2, 1, .t 8)], [4], none⟩,
  ⟨some 10, .bld [.str ⟨#[]⟩, .int .i64 0, .str ⟨#[]⟩, .int .i64 0] [(0, 1, .c (.str ⟨#[111, 107]⟩)), (1, 3, .t 9)], [5], none⟩,
  ⟨some 11, .fad (.t 1) 9, [], none⟩,
  ⟨some 12, .ld false 1 (.t 11), [7], none⟩,
  ⟨some 13, .cvi .i64 (.t 12), [8], none⟩,
  ⟨some 14, .bin .sub (.t 13) (.c (.int .i64 100)), [9], none⟩,
  ⟨some 15, .bld [.int .i64 0, .str ⟨#[]⟩, .int .i64 0] [(0, 1, .c (.int .i64 2)), (2, 1, .t 14)], [10], none⟩,
  ⟨some 16, .bld [.str ⟨#[]⟩, .int .i64 0, .str ⟨#[]⟩, .int .i64 0] [(0, 1, .c (.str ⟨#[115, 105, 122, 101]⟩)), (1, 3, .t 15)], [11], none⟩,
  ⟨some 17, .bsl 9 1 3 [.str ⟨#[]⟩] [(0, .c (.str ⟨#[97]⟩)), (1, .c (.str ⟨#[98]⟩)), (2, .c (.str ⟨#[119, 101, 115, 116, 32, 49]⟩))], [], none⟩,
  ⟨some 18, .fad (.t 1) 9, [], none⟩,
  ⟨some 19, .ld false 1 (.t 18), [14], none⟩,
  ⟨some 20, .bin .quo (.t 19) (.c (.int .u8 8)), [15], none⟩,
  ⟨some 21, .bin .rem (.t 20) (.c (.int .u8 3)), [16], none⟩,
  ⟨some 22, .iad 1 (.t 17) (.t 21), [13, 17], none⟩,
  ⟨some 23, .ld false 1 (.t 22), [18], none⟩,
  ⟨some 24, .bld [.int .i64 0, .str ⟨#[]⟩, .int .i64 0] [(0, 1, .c (.int .i64 1)), (1, 1, .t 23)], [19], none⟩,
  ⟨some 25, .bld [.str ⟨#[]⟩, .int .i64 0, .str ⟨#[]⟩, .int .i64 0] [(0, 1, .c (.str ⟨#[122, 111, 110, 101]⟩)), (1, 3, .t 24)], [20], none⟩,
  ⟨some 26, .bsl 141 4 3 [.str ⟨#[]⟩, .int .i64 0, .str ⟨#[]⟩, .int .i64 0] [(0, .t 10), (1, .t 16), (2, .t 25)], [6, 12, 21], none⟩,
  ⟨some 3, .mov (.t 26), [22, 0, 1, 2, 3, 4, 5, 6, 7, 8, 9, 10, 11, 12, 13, 14, 15, 16, 17, 18, 19, 20, 21, 22], none⟩]
def r84_2 : List AR := [⟨some 27, .mov (.t 3), [], none⟩,
  ⟨some 28, .fad (.t 1) 9, [], none⟩,
  ⟨some 29, .ld false 1 (.t 28), [1], none⟩,
  ⟨some 30, .bin .rem (.t 29) (.c (.int .u8 4)), [2], none⟩,
  ⟨some 31, .slc 4 (.t 27) none (some (.t 30)) none, [0, 3], none⟩,
  ⟨some 2, .mov (.t 31), [4, 0, 1, 2, 3, 4], none⟩]
def c84 : ACode := .seq (.reg r84_0 false) (.seq (.reg r84_1 true) (.seq (.reg r84_2 false) (.ret)))
theorem body84 : Try.f84.body.map (comp Try.prog 32) = some c84 := by kernel_rfl
theorem res84 : allSome (Try.f84.results.toList.map (compRes Try.prog)) = some [.s 2] := by kernel_rfl
theorem cok84 {S : FSpec} (h : ∀ args K, S args K → args.all argOk = true ∧ args.length ≤ 32 ∧ AW Try.prog 32 (some ownP) c84 (initS args) (retPost [.s 2] args K)) : COK Try.prog 84 S := of_body Try.func84 Try.ntmps84 body84 res84 h

/-- sleuth/sleuthlaw13.attrs -/
def W84 (c_84 : TCall) (K : (List TAttr) → Prop) : Prop :=
  Idx [(⟨#[97]⟩ : ByteArray), (⟨#[98]⟩ : ByteArray), (⟨#[119, 101, 115, 116, 32, 49]⟩ : ByteArray)] (Int.tmod (IntKind.wrap .u8 (Int.tdiv c_84.tag 8)) 3) fun x410 => 0 ≤ (Int.tmod c_84.tag 4) ∧ (Int.tmod c_84.tag 4) ≤ ([(TAttr.mk (⟨#[111, 107]⟩ : ByteArray) (TValue.mk 3 (⟨#[]⟩ : ByteArray) (w64 (Int.tmod (IntKind.wrap .u8 (Int.tdiv c_84.tag 4)) 2)))), (TAttr.mk (⟨#[115, 105, 122, 101]⟩ : ByteArray) (TValue.mk 2 (⟨#[]⟩ : ByteArray) (w64 ((w64 c_84.tag) - 100)))), (TAttr.mk (⟨#[122, 111, 110, 101]⟩ : ByteArray) (TValue.mk 1 x410 0))].length : Int) ∧ (K (List.take ((Int.tmod c_84.tag 4).toNat - 0) (List.drop 0 [(TAttr.mk (⟨#[111, 107]⟩ : ByteArray) (TValue.mk 3 (⟨#[]⟩ : ByteArray) (w64 (Int.tmod (IntKind.wrap .u8 (Int.tdiv c_84.tag 4)) 2)))), (TAttr.mk (⟨#[115, 105, 122, 101]⟩ : ByteArray) (TValue.mk 2 (⟨#[]⟩ : ByteArray) (w64 ((w64 c_84.tag) - 100)))), (TAttr.mk (⟨#[122, 111, 110, 101]⟩ : ByteArray) (TValue.mk 1 x410 0))])))

def S84 : FSpec := fun args K => ∃ (c_84 : TCall), ∃ (Kr : (List TAttr) → Prop), args = [.agg (List.map RC.d (TCall.enc c_84))] ∧ W84 c_84 Kr ∧ ∀ r, Kr r → K (.one (.d (.sl (List.map TAttr.enc r)))) []

theorem en84 : enters Try.prog 84 = true := by unfold enters; rw [Try.func84]; rfl
theorem cl84 (c_84 : TCall) {Kr : (List TAttr) → Prop} (h : W84 c_84 Kr) : S84 [.agg (List.map RC.d (TCall.enc c_84))] (fun rv rows => ∃ r, rv = (.one (.d (.sl (List.map TAttr.enc r)))) ∧ rows = [] ∧ Kr r) := ⟨c_84, Kr, rfl, h, fun r hr => ⟨r, rfl, rfl, hr⟩⟩

theorem ok84 : COK Try.prog 84 S84 := by
  refine cok84 fun args K0 hS => ?_
  obtain ⟨c_84, K, rfl, h, hK⟩ := hS
  refine ⟨by kernel_rfl, by simp, ?_⟩
  unfold W84 at h
  refine AW.sregL [(0, none), (1, none)] (by kernel_rfl) ?_
  refine l_det (some 1) (.one (.ref 1 1 0 0), [(1, 1, .row true 153 11 [[.d (.int .u8 c_84.parent), .d (.int .u8 c_84.clock), .d (.int .u8 c_84.kind), .d (.int .u8 c_84.service), .d (.int .u8 c_84.version), .d (.int .u8 c_84.operation), .d (.int .u8 c_84.wait), .d (.int .u8 c_84.long), .d (.int .u8 c_84.link), .d (.int .u8 c_84.tag), .d (.bool c_84.fail)]])]) (by kernel_rfl) ?_
  refine l_det (some 2) (.one (.nils), []) (by kernel_rfl) ?_
  refine l_nil ?_
  refine AW.sregdL follows_mixed [[], [0], [0, 1], [0, 1, 2], [0, 1, 2, 3], [0, 1, 2, 3, 4], [0, 1, 2, 3, 4, 5], [], [7], [7, 8], [7, 8, 9], [7, 8, 9, 10], [7, 8, 9, 10, 11], [], [], [14], [14, 15], [14, 15, 16], [13, 14, 15, 16, 17], [13, 14, 15, 16, 17, 18], [13, 14, 15, 16, 17, 18, 19], [13, 14, 15, 16, 17, 18, 19, 20], [0, 1, 2, 3, 4, 5, 6, 7, 8, 9, 10, 11, 12, 13, 14, 15, 16, 17, 18, 19, 20, 21], [0, 1, 2, 3, 4, 5, 6, 7, 8, 9, 10, 11, 12, 13, 14, 15, 16, 17, 18, 19, 20, 21, 22]] [(0, none), (1, some [5, 1000001]), (2, none), (3, none), (4, none), (5, none), (6, none), (7, none), (8, some [12, 1000001]), (9, none), (10, none), (11, none), (12, none), (14, none), (15, some [19, 1000001]), (16, none), (17, none), (13, some [17]), (18, none), (19, none), (20, none), (21, none), (22, none), (23, none)] (by kernel_rfl) ?_
  refine l_det (some 4) (.one (.ref 1 1 0 9), []) (by kernel_rfl) ?_
  refine l_det (some 5) (.one (.d (.int .u8 c_84.tag)), []) (by kernel_rfl) ?_
  refine l_det (some 6) (.one (.d (.int .u8 (IntKind.wrap .u8 (Int.tdiv c_84.tag 4)))), []) (by kernel_rfl) ?_
  refine l_det (some 7) (.one (.d (.int .u8 (Int.tmod (IntKind.wrap .u8 (Int.tdiv c_84.tag 4)) 2))), []) (by kernel_rfl) ?_
  refine l_det (some 8) (.one (.d (.int .i64 (w64 (Int.tmod (IntKind.wrap .u8 (Int.tdiv c_84.tag 4)) 2)))), []) (by kernel_rfl) ?_
  refine l_det (some 9) (.agg [.d (.int .i64 3), .d (.str (⟨#[]⟩ : ByteArray)), .d (.int .i64 (w64 (Int.tmod (IntKind.wrap .u8 (Int.tdiv c_84.tag 4)) 2)))], []) (by kernel_rfl) ?_
  refine l_det (some 10) (.agg [.d (.str (⟨#[111, 107]⟩ : ByteArray)), .d (.int .i64 3), .d (.str (⟨#[]⟩ : ByteArray)), .d (.int .i64 (w64 (Int.tmod (IntKind.wrap .u8 (Int.tdiv c_84.tag 4)) 2)))], []) (by kernel_rfl) ?_
  refine l_det (some 11) (.one (.ref 1 1 0 9), []) (by kernel_rfl) ?_
  refine l_det (some 12) (.one (.d (.int .u8 c_84.tag)), []) (by kernel_rfl) ?_
  refine l_det (some 13) (.one (.d (.int .i64 (w64 c_84.tag))), []) (by kernel_rfl) ?_
  refine l_det (some 14) (.one (.d (.int .i64 (w64 ((w64 c_84.tag) - 100)))), []) (by kernel_rfl) ?_
  refine l_det (some 15) (.agg [.d (.int .i64 2), .d (.str (⟨#[]⟩ : ByteArray)), .d (.int .i64 (w64 ((w64 c_84.tag) - 100)))], []) (by kernel_rfl) ?_
  refine l_det (some 16) (.agg [.d (.str (⟨#[115, 105, 122, 101]⟩ : ByteArray)), .d (.int .i64 2), .d (.str (⟨#[]⟩ : ByteArray)), .d (.int .i64 (w64 ((w64 c_84.tag) - 100)))], []) (by kernel_rfl) ?_
  refine l_det (some 18) (.one (.ref 1 1 0 9), []) (by kernel_rfl) ?_
  refine l_det (some 19) (.one (.d (.int .u8 c_84.tag)), []) (by kernel_rfl) ?_
  refine l_det (some 20) (.one (.d (.int .u8 (IntKind.wrap .u8 (Int.tdiv c_84.tag 8)))), []) (by kernel_rfl) ?_
  refine l_det (some 21) (.one (.d (.int .u8 (Int.tmod (IntKind.wrap .u8 (Int.tdiv c_84.tag 8)) 3))), []) (by kernel_rfl) ?_
  refine l_det (some 17) (.one (.view 17 1 0 3), [(17, 1, .row true 9 1 [[.d (.str (⟨#[97]⟩ : ByteArray))], [.d (.str (⟨#[98]⟩ : ByteArray))], [.d (.str (⟨#[119, 101, 115, 116, 32, 49]⟩ : ByteArray))]])]) (by kernel_rfl) ?_
  obtain ⟨h3, x410, h4, h⟩ := h
  refine l_spec (some 22) (.iad 1 (.t 17) (.t 21)) (.one (.ref 17 1 ((Int.tmod (IntKind.wrap .u8 (Int.tdiv c_84.tag 8)) 3).toNat) 0), []) (by kernel_rfl) (detA_none (d_iad_v (enc := eStr) (k := .u8) (E := 9) (l := true) (ys := dmm (List.map eStr [(⟨#[97]⟩ : ByteArray), (⟨#[98]⟩ : ByteArray), (⟨#[119, 101, 115, 116, 32, 49]⟩ : ByteArray)])) [(⟨#[97]⟩ : ByteArray), (⟨#[98]⟩ : ByteArray), (⟨#[119, 101, 115, 116, 32, 49]⟩ : ByteArray)] x410 (by kernel_rfl) (by kernel_rfl) (by kernel_rfl) (by kernel_rfl) h3 h4)) ?_
  refine l_spec (some 23) (.ld false 1 (.t 22)) (.one (.d (.str x410)), []) (by kernel_rfl) (detA_none (d_ld_row (enc := eStr) (o := 17) (g := 1) (i := ((Int.tmod (IntKind.wrap .u8 (Int.tdiv c_84.tag 8)) 3).toNat)) (off := 0) (E := 9) (sz := 1) (l := true) [(⟨#[97]⟩ : ByteArray), (⟨#[98]⟩ : ByteArray), (⟨#[119, 101, 115, 116, 32, 49]⟩ : ByteArray)] x410 (by kernel_rfl) (by kernel_rfl) (by kernel_rfl) h4 (by kernel_rfl))) ?_
  refine l_det (some 24) (.agg [.d (.int .i64 1), .d (.str x410), .d (.int .i64 0)], []) (by kernel_rfl) ?_
  refine l_det (some 25) (.agg [.d (.str (⟨#[122, 111, 110, 101]⟩ : ByteArray)), .d (.int .i64 1), .d (.str x410), .d (.int .i64 0)], []) (by kernel_rfl) ?_
  refine l_det (some 26) (.one (.view 26 1 0 3), [(26, 1, .row true 141 4 [[.d (.str (⟨#[111, 107]⟩ : ByteArray)), .d (.int .i64 3), .d (.str (⟨#[]⟩ : ByteArray)), .d (.int .i64 (w64 (Int.tmod (IntKind.wrap .u8 (Int.tdiv c_84.tag 4)) 2)))], [.d (.str (⟨#[115, 105, 122, 101]⟩ : ByteArray)), .d (.int .i64 2), .d (.str (⟨#[]⟩ : ByteArray)), .d (.int .i64 (w64 ((w64 c_84.tag) - 100)))], [.d (.str (⟨#[122, 111, 110, 101]⟩ : ByteArray)), .d (.int .i64 1), .d (.str x410), .d (.int .i64 0)]])]) (by kernel_rfl) ?_
  refine l_det (some 3) (.one (.view 26 1 0 3), []) (by kernel_rfl) ?_
  refine l_nil ?_
  refine AW.sregL [(0, none), (1, none), (2, none), (3, none), (4, none), (5, none)] (by kernel_rfl) ?_
  refine l_det (some 27) (.one (.view 26 1 0 3), []) (by kernel_rfl) ?_
  refine l_det (some 28) (.one (.ref 1 1 0 9), []) (by kernel_rfl) ?_
  refine l_det (some 29) (.one (.d (.int .u8 c_84.tag)), []) (by kernel_rfl) ?_
  refine l_det (some 30) (.one (.d (.int .u8 (Int.tmod c_84.tag 4))), []) (by kernel_rfl) ?_
  obtain ⟨h8, h9, h⟩ := h
  refine l_spec (some 31) (.slc 4 (.t 27) none (some (.t 30)) none) (.one (.view 26 1 0 ((Int.tmod c_84.tag 4).toNat - 0)), []) (by kernel_rfl) (detA_none (d_slc_vf (enc := TAttr.enc) (E := 141) (l := true) (ys := dmm (List.map TAttr.enc [(TAttr.mk (⟨#[111, 107]⟩ : ByteArray) (TValue.mk 3 (⟨#[]⟩ : ByteArray) (w64 (Int.tmod (IntKind.wrap .u8 (Int.tdiv c_84.tag 4)) 2)))), (TAttr.mk (⟨#[115, 105, 122, 101]⟩ : ByteArray) (TValue.mk 2 (⟨#[]⟩ : ByteArray) (w64 ((w64 c_84.tag) - 100)))), (TAttr.mk (⟨#[122, 111, 110, 101]⟩ : ByteArray) (TValue.mk 1 x410 0))])) (lo' := none) (hi' := (some (Int.tmod c_84.tag 4))) [(TAttr.mk (⟨#[111, 107]⟩ : ByteArray) (TValue.mk 3 (⟨#[]⟩ : ByteArray) (w64 (Int.tmod (IntKind.wrap .u8 (Int.tdiv c_84.tag 4)) 2)))), (TAttr.mk (⟨#[115, 105, 122, 101]⟩ : ByteArray) (TValue.mk 2 (⟨#[]⟩ : ByteArray) (w64 ((w64 c_84.tag) - 100)))), (TAttr.mk (⟨#[122, 111, 110, 101]⟩ : ByteArray) (TValue.mk 1 x410 0))] (by kernel_rfl) (by kernel_rfl) (by kernel_rfl) (by kernel_rfl) (by kernel_rfl) (b_hi h8 h9))) ?_
  refine l_det (some 2) (.one (.view 26 1 0 ((Int.tmod c_84.tag 4).toNat - 0)), []) (by kernel_rfl) ?_
  refine l_nil ?_
  refine AW.ret ?_
  exact q_end [.one (.view 26 1 0 ((Int.tmod c_84.tag 4).toNat - 0))] [false] [.one (.d (.sl (List.map TAttr.enc (List.take ((Int.tmod c_84.tag 4).toNat - 0) (List.drop 0 [(TAttr.mk (⟨#[111, 107]⟩ : ByteArray) (TValue.mk 3 (⟨#[]⟩ : ByteArray) (w64 (Int.tmod (IntKind.wrap .u8 (Int.tdiv c_84.tag 4)) 2)))), (TAttr.mk (⟨#[115, 105, 122, 101]⟩ : ByteArray) (TValue.mk 2 (⟨#[]⟩ : ByteArray) (w64 ((w64 c_84.tag) - 100)))), (TAttr.mk (⟨#[122, 111, 110, 101]⟩ : ByteArray) (TValue.mk 1 x410 0))])))))] [] [26] (by kernel_rfl) (ps_plain (pv_one (pf_part (enc := TAttr.enc) (E := 141) (sz := 4) (l := true) [(TAttr.mk (⟨#[111, 107]⟩ : ByteArray) (TValue.mk 3 (⟨#[]⟩ : ByteArray) (w64 (Int.tmod (IntKind.wrap .u8 (Int.tdiv c_84.tag 4)) 2)))), (TAttr.mk (⟨#[115, 105, 122, 101]⟩ : ByteArray) (TValue.mk 2 (⟨#[]⟩ : ByteArray) (w64 ((w64 c_84.tag) - 100)))), (TAttr.mk (⟨#[122, 111, 110, 101]⟩ : ByteArray) (TValue.mk 1 x410 0))] (by kernel_rfl) (by kernel_rfl) (by simp only [List.length_map, List.length_cons, List.length_nil] at *; omega))) ps_nil) (by kernel_rfl) (by kernel_rfl) (by kernel_rfl) (by kernel_rfl) (Eq.mp (by kernel_rfl) (hK (List.take ((Int.tmod c_84.tag 4).toNat - 0) (List.drop 0 [(TAttr.mk (⟨#[111, 107]⟩ : ByteArray) (TValue.mk 3 (⟨#[]⟩ : ByteArray) (w64 (Int.tmod (IntKind.wrap .u8 (Int.tdiv c_84.tag 4)) 2)))), (TAttr.mk (⟨#[115, 105, 122, 101]⟩ : ByteArray) (TValue.mk 2 (⟨#[]⟩ : ByteArray) (w64 ((w64 c_84.tag) - 100)))), (TAttr.mk (⟨#[122, 111, 110, 101]⟩ : ByteArray) (TValue.mk 1 x410 0))])) h)) (.inr rfl)
def r69_0 : List AR := [⟨some 5, .box 27 true 7 (.t 0), [], none⟩,
  ⟨some 10, .alloc 58 true [.int .i64 0, .int .i64 0, .int .i64 0, .int .i64 0, .int .i64 0, .int .i64 0, .str ⟨#[]⟩, .str ⟨#[]⟩, .str ⟨#[]⟩, .int .i64 0, .int .i64 0, .bool false, .nils, .nils], [], none⟩]
def r69_1 : List AR := [⟨some 15, .fad (.t 5) 0, [], none⟩,
  ⟨some 16, .ld false 1 (.t 15), [0], none⟩,
  ⟨some 17, .mov (.t 1), [], none⟩,
  ⟨some 18, .iad 3 (.t 16) (.t 17), [1, 2], none⟩,
  ⟨some 19, .fad (.t 18) 2, [3], none⟩,
  ⟨some 20, .ld false 1 (.t 19), [4], none⟩,
  ⟨some 21, .mov (.t 2), [], none⟩,
  ⟨some 22, .iad 11 (.t 20) (.t 21), [5, 6], none⟩,
  ⟨some 23, .ld true 11 (.t 22), [7], none⟩,
  ⟨some 11, .alloc 153 true [.int .u8 0, .int .u8 0, .int .u8 0, .int .u8 0, .int .u8 0, .int .u8 0, .int .u8 0, .int .u8 0, .int .u8 0, .int .u8 0, .bool false], [], none⟩,
  ⟨none, .st 11 (.t 11) (.t 23), [9, 8, 0, 1, 2, 3, 4, 5, 6, 7, 8, 9], none⟩]
def r69_2 : List AR := [⟨some 24, .ld true 7 (.t 5), [], none⟩,
  ⟨some 25, .mov (.t 1), [], none⟩,
  ⟨some 26, .call 41 [.t 24, .t 25], [0, 1], none⟩,
  ⟨some 27, .mov (.t 2), [], none⟩,
  ⟨some 28, .bin .add (.t 27) (.c (.int .i64 1)), [3], none⟩,
  ⟨some 29, .fad (.t 11) 1, [], none⟩,
  ⟨some 30, .ld false 1 (.t 29), [5], none⟩,
  ⟨some 31, .bin .rem (.t 30) (.c (.int .u8 4)), [6], none⟩,
  ⟨some 32, .cvi .i64 (.t 31), [7], none⟩,
  ⟨some 33, .bin .add (.c (.int .i64 1)) (.t 32), [8], none⟩,
  ⟨some 34, .ld true 11 (.t 11), [], none⟩,
  ⟨some 35, .call 83 [.t 34], [10, 2], none⟩,
  ⟨some 36, .fad (.t 11) 10, [], none⟩,
  ⟨some 37, .ld false 1 (.t 36), [12], none⟩,
  ⟨some 38, .mov (.t 3), [], none⟩,
  ⟨some 39, .mov (.t 2), [], none⟩,
  ⟨some 40, .iad 1 (.t 38) (.t 39), [14, 15], none⟩,
  ⟨some 41, .ld false 1 (.t 40), [16], none⟩,
  ⟨some 42, .mov (.t 4), [], none⟩,
  ⟨some 43, .mov (.t 2), [], none⟩,
  ⟨some 44, .iad 1 (.t 42) (.t 43), [18, 19], none⟩,
  ⟨some 45, .ld false 1 (.t 44), [20], none⟩,
  ⟨some 46, .bld [.int .i64 0, .int .i64 0, .int .i64 0, .int .i64 0, .int .i64 0, .int .i64 0, .str ⟨#[]⟩, .str ⟨#[]⟩, .str ⟨#[]⟩, .int .i64 0, .int .i64 0, .bool false, .nils, .nils] [(0, 1, .t 26), (1, 1, .t 28), (4, 1, .t 33), (5, 1, .t 35), (11, 1, .t 37), (9, 1, .t 41), (10, 1, .t 45)], [2, 4, 9, 11, 13, 17, 21], none⟩,
  ⟨some 12, .alloc 58 true [.int .i64 0, .int .i64 0, .int .i64 0, .int .i64 0, .int .i64 0, .int .i64 0, .str ⟨#[]⟩, .str ⟨#[]⟩, .str ⟨#[]⟩, .int .i64 0, .int .i64 0, .bool false, .nils, .nils], [], none⟩,
  ⟨none, .st 14 (.t 12) (.t 46), [23, 22, 11, 0, 1, 2, 3, 4, 5, 6, 7, 8, 9, 10, 11, 12, 13, 14, 15, 16, 17, 18, 19, 20, 21, 22, 23], none⟩]
def r69_3 : List AR := [⟨some 47, .bsl 9 1 4 [.str ⟨#[]⟩] [(0, .c (.str ⟨#[97, 112, 105]⟩)), (1, .c (.str ⟨#[100, 98]⟩)), (2, .c (.str ⟨#[119, 101, 98]⟩)), (3, .c (.str ⟨#[99, 97, 99, 104, 101]⟩))], [], none⟩,
  ⟨some 48, .fad (.t 11) 3, [], none⟩,
  ⟨some 49, .ld false 1 (.t 48), [1], none⟩,
  ⟨some 50, .bin .rem (.t 49) (.c (.int .u8 4)), [2], none⟩,
  ⟨some 51, .iad 1 (.t 47) (.t 50), [0, 3], none⟩,
  ⟨some 52, .ld false 1 (.t 51), [4], none⟩,
  ⟨some 53, .fad (.t 12) 6, [0, 1, 2, 3, 4, 5], none⟩,
  ⟨none, .st 1 (.t 53) (.t 52), [6, 5, 0, 1, 2, 3, 4, 5], none⟩]
def r69_4 : List AR := [⟨some 54, .bsl 9 1 3 [.str ⟨#[]⟩] [(0, .c (.str ⟨#[118, 49]⟩)), (1, .c (.str ⟨#[118, 50]⟩)), (2, .c (.str ⟨#[]⟩))], [], none⟩,
  ⟨some 55, .fad (.t 11) 4, [], none⟩,
  ⟨some 56, .ld false 1 (.t 55), [1], none⟩,
  ⟨some 57, .bin .rem (.t 56) (.c (.int .u8 3)), [2], none⟩,
  ⟨some 58, .iad 1 (.t 54) (.t 57), [0, 3], none⟩,
  ⟨some 59, .ld false 1 (.t 58), [4], none⟩,
  ⟨some 60, .fad (.t 12) 7, [0, 1, 2, 3, 4, 5], none⟩,
  ⟨none, .st 1 (.t 60) (.t 59), [6, 5, 0, 1, 2, 3, 4, 5], none⟩]
def r69_5 : List AR := [⟨some 61, .bsl 9 1 3 [.str ⟨#[]⟩] [(0, .c (.str ⟨#[103, 101, 116]⟩)), (1, .c (.str ⟨#[112, 117, 116]⟩)), (2, .c (.str ⟨#[108, 105, 115, 116]⟩))], [], none⟩,
  ⟨some 62, .fad (.t 11) 5, [], none⟩,
  ⟨some 63, .ld false 1 (.t 62), [1], none⟩,
  ⟨some 64, .bin .rem (.t 63) (.c (.int .u8 3)), [2], none⟩,
  ⟨some 65, .iad 1 (.t 61) (.t 64), [0, 3], none⟩,
  ⟨some 66, .ld false 1 (.t 65), [4], none⟩,
  ⟨some 67, .fad (.t 12) 8, [0, 1, 2, 3, 4, 5], none⟩,
  ⟨none, .st 1 (.t 67) (.t 66), [6, 5, 0, 1, 2, 3, 4, 5], none⟩]
def r69_6 : List AR := [⟨some 68, .fad (.t 11) 0, [], none⟩,
  ⟨some 69, .ld false 1 (.t 68), [0], none⟩,
  ⟨some 70, .cvi .i64 (.t 69), [1], none⟩,
  ⟨some 71, .mov (.t 2), [], none⟩,
  ⟨some 72, .bin .add (.t 71) (.c (.int .i64 1)), [3], none⟩,
  ⟨some 73, .bin .rem (.t 70) (.t 72), [2, 4], none⟩,
  ⟨some 13, .mov (.t 73), [5, 0, 1, 2, 3, 4, 5], none⟩]
def r69_7 : List AR := [⟨some 74, .mov (.t 13), [], none⟩,
  ⟨some 75, .mov (.t 2), [], none⟩,
  ⟨some 76, .bin .lss (.t 74) (.t 75), [0, 1], none⟩]
def r69_8 : List AR := [⟨some 77, .mov (.t 13), [], none⟩,
  ⟨some 78, .bin .add (.t 77) (.c (.int .i64 1)), [0], none⟩,
  ⟨some 79, .fad (.t 12) 2, [0, 1], none⟩,
  ⟨none, .st 1 (.t 79) (.t 78), [2, 1, 0, 1], none⟩]
def r69_9 : List AR := [⟨some 80, .mov (.t 2), [], none⟩,
  ⟨some 81, .bin .gtr (.t 80) (.c (.int .i64 0)), [0], none⟩]
def r69_10 : List AR := [⟨some 82, .fad (.t 12) 2, [], none⟩,
  ⟨none, .st 1 (.t 82) (.c (.int .i64 100)), [0], none⟩]
def r69_11 : List AR := [⟨some 83, .fad (.t 11) 8, [], none⟩,
  ⟨some 84, .ld false 1 (.t 83), [0], none⟩,
  ⟨some 85, .bin .rem (.t 84) (.c (.int .u8 16)), [1], none⟩,
  ⟨some 86, .cvi .i64 (.t 85), [2], none⟩,
  ⟨some 14, .mov (.t 86), [3, 0, 1, 2, 3], none⟩]
def r69_12 : List AR := [⟨some 87, .mov (.t 14), [], none⟩,
  ⟨some 88, .mov (.t 2), [], none⟩,
  ⟨some 89, .bin .lss (.t 87) (.t 88), [0, 1], none⟩,
  ⟨some 90, .mov (.t 89), [2], none⟩,
  ⟨some 91, .mov (.t 3), [3], some (90, true)⟩,
  ⟨some 92, .mov (.t 14), [3], some (90, true)⟩,
  ⟨some 93, .iad 1 (.t 91) (.t 92), [4, 5, 3], some (90, true)⟩,
  ⟨some 94, .ld false 1 (.t 93), [6, 3], some (90, true)⟩,
  ⟨some 95, .mov (.t 3), [3], some (90, true)⟩,
  ⟨some 96, .mov (.t 2), [3], some (90, true)⟩,
  ⟨some 97, .iad 1 (.t 95) (.t 96), [8, 9, 3], some (90, true)⟩,
  ⟨some 98, .ld false 1 (.t 97), [10, 3], some (90, true)⟩,
  ⟨some 99, .bin .leq (.t 94) (.t 98), [7, 11, 3], some (90, true)⟩,
  ⟨some 100, .pick (.t 90) (.t 99) (.c (.bool false)), [3, 12], none⟩]
def r69_13 : List AR := [⟨some 101, .fad (.t 12) 0, [], none⟩,
  ⟨some 102, .ld false 1 (.t 101), [0], none⟩,
  ⟨some 103, .mov (.t 14), [], none⟩,
  ⟨some 104, .bin .add (.t 103) (.c (.int .i64 1)), [2], none⟩,
  ⟨some 105, .bld [.int .i64 0, .int .i64 0] [(0, 1, .t 102), (1, 1, .t 104)], [1, 3], none⟩,
  ⟨some 106, .bsl 146 2 1 [.int .i64 0, .int .i64 0] [(0, .t 105)], [4], none⟩,
  ⟨some 107, .fad (.t 12) 13, [0, 1, 2, 3, 4, 5], none⟩,
  ⟨none, .st 1 (.t 107) (.t 106), [6, 5, 0, 1, 2, 3, 4, 5], none⟩]
def r69_14 : List AR := [⟨some 108, .ld true 11 (.t 11), [], none⟩,
  ⟨some 109, .call 84 [.t 108], [0], none⟩,
  ⟨some 110, .fad (.t 12) 12, [0, 1], none⟩,
  ⟨none, .st 1 (.t 110) (.t 109), [2, 1, 1, 0, 1], none⟩]
def r69_15 : List AR := [⟨some 111, .ld true 14 (.t 12), [], none⟩,
  ⟨none, .st 14 (.t 10) (.t 111), [0, 0], none⟩]
def c69 : ACode := .seq (.reg r69_0 false) (.seq (.reg r69_1 false) (.seq (.reg r69_2 true) (.seq (.reg r69_3 false) (.seq (.reg r69_4 false) (.seq (.reg r69_5 false) (.seq (.seq (.reg r69_6 false) (.seq (.reg r69_7 false) (.cond (.t 76) (.reg r69_8 false) (.seq (.reg r69_9 false) (.cond (.t 81) (.reg r69_10 false) (.skip)))))) (.seq (.seq (.reg r69_11 false) (.seq (.reg r69_12 true) (.cond (.t 100) (.reg r69_13 false) (.skip)))) (.seq (.reg r69_14 false) (.seq (.reg r69_15 false) (.ret))))))))))
theorem body69 : Try.f69.body.map (comp Try.prog 112) = some c69 := by kernel_rfl
theorem res69 : allSome (Try.f69.results.toList.map (compRes Try.prog)) = some [.c 10 true 14] := by kernel_rfl
theorem cok69 {S : FSpec} (h : ∀ args K, S args K → args.all argOk = true ∧ args.length ≤ 112 ∧ AW Try.prog 112 (some ownP) c69 (initS args) (retPost [.c 10 true 14] args K)) : COK Try.prog 69 S := of_body Try.func69 Try.ntmps69 body69 res69 h

def J69_2 (x384 : TCall) (K : TSpan → Prop) (r391 : Int) (i_69 : Int) (v399 : Int) (r392 : Int) (x394 : ByteArray) (x396 : ByteArray) (x398 : ByteArray) (x389 : Int) (x390 : Int) (v408 : List TRef) : Prop :=
  W84 x384 fun r412 => K (TSpan.mk r391 (w64 (i_69 + 1)) v399 0 (w64 (1 + (w64 (Int.tmod x384.clock 4)))) r392 x394 x396 x398 x389 x390 x384.fail r412 v408)

def J69_3 (x384 : TCall) (K : TSpan → Prop) (r391 : Int) (i_69 : Int) (v399 : Int) (r392 : Int) (x394 : ByteArray) (x396 : ByteArray) (x398 : ByteArray) (x389 : Int) (x390 : Int) (v415 : Bool) : Prop :=
  Cond v415 (J69_2 x384 K r391 i_69 v399 r392 x394 x396 x398 x389 x390 [(TRef.mk r391 (w64 ((w64 (Int.tmod x384.link 16)) + 1)))]) (J69_2 x384 K r391 i_69 v399 r392 x394 x396 x398 x389 x390 [])

def J69_1 (x384 : TCall) (i_69 : Int) (start_69 : List Int) (K : TSpan → Prop) (r391 : Int) (r392 : Int) (x394 : ByteArray) (x396 : ByteArray) (x398 : ByteArray) (x389 : Int) (x390 : Int) (v399 : Int) : Prop :=
  Cond (decide ((w64 (Int.tmod x384.link 16)) < i_69)) (Idx start_69 (w64 (Int.tmod x384.link 16)) fun x416 => J69_3 x384 K r391 i_69 v399 r392 x394 x396 x398 x389 x390 (decide (x416 ≤ x389))) (J69_3 x384 K r391 i_69 v399 r392 x394 x396 x398 x389 x390 false)

/-- sleuth/sleuthlaw13.made -/
def W69 (s_69 : TStory) (k_69 : Int) (i_69 : Int) (start_69 : List Int) (end_4_69 : List Int) (K : TSpan → Prop) : Prop :=
  Idx s_69.trees k_69 fun x383 => Idx x383.calls i_69 fun x384 => Idx start_69 i_69 fun x389 => Idx end_4_69 i_69 fun x390 => W41 s_69 k_69 fun r391 => W83 x384 fun r392 => Idx [(⟨#[97, 112, 105]⟩ : ByteArray), (⟨#[100, 98]⟩ : ByteArray), (⟨#[119, 101, 98]⟩ : ByteArray), (⟨#[99, 97, 99, 104, 101]⟩ : ByteArray)] (Int.tmod x384.service 4) fun x394 => Idx [(⟨#[118, 49]⟩ : ByteArray), (⟨#[118, 50]⟩ : ByteArray), (⟨#[]⟩ : ByteArray)] (Int.tmod x384.version 3) fun x396 => Idx [(⟨#[103, 101, 116]⟩ : ByteArray), (⟨#[112, 117, 116]⟩ : ByteArray), (⟨#[108, 105, 115, 116]⟩ : ByteArray)] (Int.tmod x384.operation 3) fun x398 => (w64 (i_69 + 1)) ≠ 0 ∧ (Cond (decide ((Int.tmod (w64 x384.parent) (w64 (i_69 + 1))) < i_69)) (J69_1 x384 i_69 start_69 K r391 r392 x394 x396 x398 x389 x390 (w64 ((Int.tmod (w64 x384.parent) (w64 (i_69 + 1))) + 1))) (Cond (decide (i_69 > 0)) (J69_1 x384 i_69 start_69 K r391 r392 x394 x396 x398 x389 x390 100) (J69_1 x384 i_69 start_69 K r391 r392 x394 x396 x398 x389 x390 0)))

def S69 : FSpec := fun args K => ∃ (s_69 : TStory), ∃ (k_69 : Int), ∃ (i_69 : Int), ∃ (start_69 : List Int), ∃ (end_4_69 : List Int), ∃ (Kr : TSpan → Prop), args = [.agg (List.map RC.d (TStory.enc s_69)), .one (.d (.int .i64 k_69)), .one (.d (.int .i64 i_69)), .one (.d (.sl (List.map (eInt .i64) start_69))), .one (.d (.sl (List.map (eInt .i64) end_4_69)))] ∧ W69 s_69 k_69 i_69 start_69 end_4_69 Kr ∧ ∀ r, Kr r → K (.agg (List.map RC.d (TSpan.enc r))) []

theorem en69 : enters Try.prog 69 = true := by unfold enters; rw [Try.func69]; rfl
theorem cl69 (s_69 : TStory) (k_69 : Int) (i_69 : Int) (start_69 : List Int) (end_4_69 : List Int) {Kr : TSpan → Prop} (h : W69 s_69 k_69 i_69 start_69 end_4_69 Kr) : S69 [.agg (List.map RC.d (TStory.enc s_69)), .one (.d (.int .i64 k_69)), .one (.d (.int .i64 i_69)), .one (.d (.sl (List.map (eInt .i64) start_69))), .one (.d (.sl (List.map (eInt .i64) end_4_69)))] (fun rv rows => ∃ r, rv = (.agg (List.map RC.d (TSpan.enc r))) ∧ rows = [] ∧ Kr r) := ⟨s_69, k_69, i_69, start_69, end_4_69, Kr, rfl, h, fun r hr => ⟨r, rfl, rfl, hr⟩⟩

theorem ok69 : COK Try.prog 69 S69 := by
  refine cok69 fun args K0 hS => ?_
  obtain ⟨s_69, k_69, i_69, start_69, end_4_69, K, rfl, h, hK⟩ := hS
  refine ⟨by kernel_rfl, by simp, ?_⟩
  unfold W69 at h
  refine AW.sregL [(0, none), (1, none)] (by kernel_rfl) ?_
  refine l_det (some 5) (.one (.ref 5 1 0 0), [(5, 1, .row true 27 7 [[.d (.sl (List.map TTree.enc s_69.trees)), .d (.int .i8 s_69.offsets.e0), .d (.int .i8 s_69.offsets.e1), .d (.int .i8 s_69.offsets.e2), .d (.int .i8 s_69.offsets.e3), .d (.sl (List.map TSync.enc s_69.syncs)), .d (.int .u8 s_69.wrong)]])]) (by kernel_rfl) ?_
  refine l_det (some 10) (.one (.ref 10 1 0 0), [(10, 1, .row true 58 14 [[.d (.int .i64 0), .d (.int .i64 0), .d (.int .i64 0), .d (.int .i64 0), .d (.int .i64 0), .d (.int .i64 0), .d (.str (⟨#[]⟩ : ByteArray)), .d (.str (⟨#[]⟩ : ByteArray)), .d (.str (⟨#[]⟩ : ByteArray)), .d (.int .i64 0), .d (.int .i64 0), .d (.bool false), .nils, .nils]])]) (by kernel_rfl) ?_
  refine l_nil ?_
  refine AW.sregL [(0, none), (1, none), (2, none), (3, none), (4, none), (5, none), (6, none), (7, none), (8, none), (9, none), (10, none)] (by kernel_rfl) ?_
  refine l_det (some 15) (.one (.ref 5 1 0 0), []) (by kernel_rfl) ?_
  refine l_det (some 16) (.one (.d (.sl (List.map TTree.enc s_69.trees))), []) (by kernel_rfl) ?_
  refine l_det (some 17) (.one (.d (.int .i64 k_69)), []) (by kernel_rfl) ?_
  obtain ⟨h5, x383, h6, h⟩ := h
  refine l_spec (some 18) (.iad 3 (.t 16) (.t 17)) (.one (.d (.ptr [.int .u8 x383.slot, .int .u8 x383.start, .sl (List.map TCall.enc x383.calls)])), []) (by kernel_rfl) (detA_none (d_iad_sl (enc := TTree.enc) (k := .i64) s_69.trees x383 (by kernel_rfl) (by kernel_rfl) h5 h6 rfl)) ?_
  refine l_det (some 19) (.one (.d (.ptr [.sl (List.map TCall.enc x383.calls)])), []) (by kernel_rfl) ?_
  refine l_det (some 20) (.one (.d (.sl (List.map TCall.enc x383.calls))), []) (by kernel_rfl) ?_
  refine l_det (some 21) (.one (.d (.int .i64 i_69)), []) (by kernel_rfl) ?_
  obtain ⟨h7, x384, h8, h⟩ := h
  refine l_spec (some 22) (.iad 11 (.t 20) (.t 21)) (.one (.d (.ptr [.int .u8 x384.parent, .int .u8 x384.clock, .int .u8 x384.kind, .int .u8 x384.service, .int .u8 x384.version, .int .u8 x384.operation, .int .u8 x384.wait, .int .u8 x384.long, .int .u8 x384.link, .int .u8 x384.tag, .bool x384.fail])), []) (by kernel_rfl) (detA_none (d_iad_sl (enc := TCall.enc) (k := .i64) x383.calls x384 (by kernel_rfl) (by kernel_rfl) h7 h8 rfl)) ?_
  refine l_det (some 23) (.agg [.d (.int .u8 x384.parent), .d (.int .u8 x384.clock), .d (.int .u8 x384.kind), .d (.int .u8 x384.service), .d (.int .u8 x384.version), .d (.int .u8 x384.operation), .d (.int .u8 x384.wait), .d (.int .u8 x384.long), .d (.int .u8 x384.link), .d (.int .u8 x384.tag), .d (.bool x384.fail)], []) (by kernel_rfl) ?_
  refine l_det (some 11) (.one (.ref 11 1 0 0), [(11, 1, .row true 153 11 [[.d (.int .u8 0), .d (.int .u8 0), .d (.int .u8 0), .d (.int .u8 0), .d (.int .u8 0), .d (.int .u8 0), .d (.int .u8 0), .d (.int .u8 0), .d (.int .u8 0), .d (.int .u8 0), .d (.bool false)]])]) (by kernel_rfl) ?_
  refine l_det none (.tup [], [(11, 1, .row true 153 11 [[.d (.int .u8 x384.parent), .d (.int .u8 x384.clock), .d (.int .u8 x384.kind), .d (.int .u8 x384.service), .d (.int .u8 x384.version), .d (.int .u8 x384.operation), .d (.int .u8 x384.wait), .d (.int .u8 x384.long), .d (.int .u8 x384.link), .d (.int .u8 x384.tag), .d (.bool x384.fail)]])]) (by kernel_rfl) ?_
  refine l_nil ?_
  refine AW.sregdL follows_mixed [[], [], [0, 1], [], [3], [], [5], [5, 6], [5, 6, 7], [5, 6, 7, 8], [], [0, 1, 2, 10], [], [12], [], [], [14, 15], [14, 15, 16], [], [], [18, 19], [18, 19, 20], [0, 1, 2, 3, 4, 5, 6, 7, 8, 9, 10, 11, 12, 13, 14, 15, 16, 17, 18, 19, 20, 21], [], [0, 1, 2, 3, 4, 5, 6, 7, 8, 9, 10, 11, 12, 13, 14, 15, 16, 17, 18, 19, 20, 21, 22, 23]] [(0, some [24, 1000005]), (1, none), (3, none), (4, none), (5, none), (6, some [30, 1000011]), (7, none), (8, none), (9, none), (10, some [34, 1000011]), (12, none), (13, some [37, 1000011]), (14, none), (15, none), (16, some [40]), (17, some [41]), (18, none), (19, none), (20, some [44]), (21, some [45]), (23, some [12]), (2, some [26]), (11, some [35]), (22, none), (24, none)] (by kernel_rfl) ?_
  refine l_det (some 24) (.agg [.d (.sl (List.map TTree.enc s_69.trees)), .d (.int .i8 s_69.offsets.e0), .d (.int .i8 s_69.offsets.e1), .d (.int .i8 s_69.offsets.e2), .d (.int .i8 s_69.offsets.e3), .d (.sl (List.map TSync.enc s_69.syncs)), .d (.int .u8 s_69.wrong)], []) (by kernel_rfl) ?_
  refine l_det (some 25) (.one (.d (.int .i64 k_69)), []) (by kernel_rfl) ?_
  refine l_det (some 27) (.one (.d (.int .i64 i_69)), []) (by kernel_rfl) ?_
  refine l_det (some 28) (.one (.d (.int .i64 (w64 (i_69 + 1)))), []) (by kernel_rfl) ?_
  refine l_det (some 29) (.one (.ref 11 1 0 1), []) (by kernel_rfl) ?_
  refine l_det (some 30) (.one (.d (.int .u8 x384.clock)), []) (by kernel_rfl) ?_
  refine l_det (some 31) (.one (.d (.int .u8 (Int.tmod x384.clock 4))), []) (by kernel_rfl) ?_
  refine l_det (some 32) (.one (.d (.int .i64 (w64 (Int.tmod x384.clock 4)))), []) (by kernel_rfl) ?_
  refine l_det (some 33) (.one (.d (.int .i64 (w64 (1 + (w64 (Int.tmod x384.clock 4)))))), []) (by kernel_rfl) ?_
  refine l_det (some 34) (.agg [.d (.int .u8 x384.parent), .d (.int .u8 x384.clock), .d (.int .u8 x384.kind), .d (.int .u8 x384.service), .d (.int .u8 x384.version), .d (.int .u8 x384.operation), .d (.int .u8 x384.wait), .d (.int .u8 x384.long), .d (.int .u8 x384.link), .d (.int .u8 x384.tag), .d (.bool x384.fail)], []) (by kernel_rfl) ?_
  refine l_det (some 36) (.one (.ref 11 1 0 10), []) (by kernel_rfl) ?_
  refine l_det (some 37) (.one (.d (.bool x384.fail)), []) (by kernel_rfl) ?_
  refine l_det (some 38) (.one (.d (.sl (List.map (eInt .i64) start_69))), []) (by kernel_rfl) ?_
  refine l_det (some 39) (.one (.d (.int .i64 i_69)), []) (by kernel_rfl) ?_
  obtain ⟨h15, x389, h16, h⟩ := h
  refine l_spec (some 40) (.iad 1 (.t 38) (.t 39)) (.one (.d (.ptr [.int .i64 x389])), []) (by kernel_rfl) (detA_some (d_iad_sl (enc := (eInt .i64)) (k := .i64) start_69 x389 (by kernel_rfl) (by kernel_rfl) h15 h16 rfl) (by kernel_rfl)) ?_
  refine l_det (some 41) (.one (.d (.int .i64 x389)), []) (by kernel_rfl) ?_
  refine l_det (some 42) (.one (.d (.sl (List.map (eInt .i64) end_4_69))), []) (by kernel_rfl) ?_
  refine l_det (some 43) (.one (.d (.int .i64 i_69)), []) (by kernel_rfl) ?_
  obtain ⟨h17, x390, h18, h⟩ := h
  refine l_spec (some 44) (.iad 1 (.t 42) (.t 43)) (.one (.d (.ptr [.int .i64 x390])), []) (by kernel_rfl) (detA_some (d_iad_sl (enc := (eInt .i64)) (k := .i64) end_4_69 x390 (by kernel_rfl) (by kernel_rfl) h17 h18 rfl) (by kernel_rfl)) ?_
  refine l_det (some 45) (.one (.d (.int .i64 x390)), []) (by kernel_rfl) ?_
  refine l_det (some 12) (.one (.ref 12 1 0 0), [(12, 1, .row true 58 14 [[.d (.int .i64 0), .d (.int .i64 0), .d (.int .i64 0), .d (.int .i64 0), .d (.int .i64 0), .d (.int .i64 0), .d (.str (⟨#[]⟩ : ByteArray)), .d (.str (⟨#[]⟩ : ByteArray)), .d (.str (⟨#[]⟩ : ByteArray)), .d (.int .i64 0), .d (.int .i64 0), .d (.bool false), .nils, .nils]])]) (by kernel_rfl) ?_
  refine l_call ok41 en41 (some 26) [.agg [.d (.sl (List.map TTree.enc s_69.trees)), .d (.int .i8 s_69.offsets.e0), .d (.int .i8 s_69.offsets.e1), .d (.int .i8 s_69.offsets.e2), .d (.int .i8 s_69.offsets.e3), .d (.sl (List.map TSync.enc s_69.syncs)), .d (.int .u8 s_69.wrong)], .one (.d (.int .i64 k_69))] [false, false] [.agg (List.map RC.d [.sl (List.map TTree.enc s_69.trees), .int .i8 s_69.offsets.e0, .int .i8 s_69.offsets.e1, .int .i8 s_69.offsets.e2, .int .i8 s_69.offsets.e3, .sl (List.map TSync.enc s_69.syncs), .int .u8 s_69.wrong]), .one (.d (.int .i64 k_69))] [] (by kernel_rfl) ⟨by kernel_rfl, by kernel_rfl⟩ (by kernel_rfl) (by kernel_rfl) (by kernel_rfl) (cl41 s_69 k_69 h) ?_
  rintro hR _ _ ⟨r391, rfl, rfl, h⟩
  refine ⟨false, (.one (.d (.int .i64 r391)), []), (fun hz => (by cases hz)), (ret_R hR (by kernel_rfl)), ?_⟩
  refine l_call ok83 en83 (some 35) [.agg [.d (.int .u8 x384.parent), .d (.int .u8 x384.clock), .d (.int .u8 x384.kind), .d (.int .u8 x384.service), .d (.int .u8 x384.version), .d (.int .u8 x384.operation), .d (.int .u8 x384.wait), .d (.int .u8 x384.long), .d (.int .u8 x384.link), .d (.int .u8 x384.tag), .d (.bool x384.fail)]] [false] [.agg (List.map RC.d [.int .u8 x384.parent, .int .u8 x384.clock, .int .u8 x384.kind, .int .u8 x384.service, .int .u8 x384.version, .int .u8 x384.operation, .int .u8 x384.wait, .int .u8 x384.long, .int .u8 x384.link, .int .u8 x384.tag, .bool x384.fail])] [] (by kernel_rfl) ⟨by kernel_rfl, by kernel_rfl⟩ (by kernel_rfl) (by kernel_rfl) (by kernel_rfl) (cl83 x384 h) ?_
  rintro hR _ _ ⟨r392, rfl, rfl, h⟩
  refine ⟨false, (.one (.d (.int .i64 r392)), []), (fun hz => (by cases hz)), (ret_R hR (by kernel_rfl)), ?_⟩
  refine l_det (some 46) (.agg [.d (.int .i64 r391), .d (.int .i64 (w64 (i_69 + 1))), .d (.int .i64 0), .d (.int .i64 0), .d (.int .i64 (w64 (1 + (w64 (Int.tmod x384.clock 4))))), .d (.int .i64 r392), .d (.str (⟨#[]⟩ : ByteArray)), .d (.str (⟨#[]⟩ : ByteArray)), .d (.str (⟨#[]⟩ : ByteArray)), .d (.int .i64 x389), .d (.int .i64 x390), .d (.bool x384.fail), .nils, .nils], []) (by kernel_rfl) ?_
  refine l_det none (.tup [], [(12, 1, .row true 58 14 [[.d (.int .i64 r391), .d (.int .i64 (w64 (i_69 + 1))), .d (.int .i64 0), .d (.int .i64 0), .d (.int .i64 (w64 (1 + (w64 (Int.tmod x384.clock 4))))), .d (.int .i64 r392), .d (.str (⟨#[]⟩ : ByteArray)), .d (.str (⟨#[]⟩ : ByteArray)), .d (.str (⟨#[]⟩ : ByteArray)), .d (.int .i64 x389), .d (.int .i64 x390), .d (.bool x384.fail), .nils, .nils]])]) (by kernel_rfl) ?_
  refine l_nil ?_
  refine AW.sregL [(0, none), (1, none), (2, none), (3, none), (4, none), (5, none), (6, none), (7, none)] (by kernel_rfl) ?_
  refine l_det (some 47) (.one (.view 47 1 0 4), [(47, 1, .row true 9 1 [[.d (.str (⟨#[97, 112, 105]⟩ : ByteArray))], [.d (.str (⟨#[100, 98]⟩ : ByteArray))], [.d (.str (⟨#[119, 101, 98]⟩ : ByteArray))], [.d (.str (⟨#[99, 97, 99, 104, 101]⟩ : ByteArray))]])]) (by kernel_rfl) ?_
  refine l_det (some 48) (.one (.ref 11 1 0 3), []) (by kernel_rfl) ?_
  refine l_det (some 49) (.one (.d (.int .u8 x384.service)), []) (by kernel_rfl) ?_
  refine l_det (some 50) (.one (.d (.int .u8 (Int.tmod x384.service 4))), []) (by kernel_rfl) ?_
  obtain ⟨h23, x394, h24, h⟩ := h
  refine l_spec (some 51) (.iad 1 (.t 47) (.t 50)) (.one (.ref 47 1 ((Int.tmod x384.service 4).toNat) 0), []) (by kernel_rfl) (detA_none (d_iad_v (enc := eStr) (k := .u8) (E := 9) (l := true) (ys := dmm (List.map eStr [(⟨#[97, 112, 105]⟩ : ByteArray), (⟨#[100, 98]⟩ : ByteArray), (⟨#[119, 101, 98]⟩ : ByteArray), (⟨#[99, 97, 99, 104, 101]⟩ : ByteArray)])) [(⟨#[97, 112, 105]⟩ : ByteArray), (⟨#[100, 98]⟩ : ByteArray), (⟨#[119, 101, 98]⟩ : ByteArray), (⟨#[99, 97, 99, 104, 101]⟩ : ByteArray)] x394 (by kernel_rfl) (by kernel_rfl) (by kernel_rfl) (by kernel_rfl) h23 h24)) ?_
  refine l_spec (some 52) (.ld false 1 (.t 51)) (.one (.d (.str x394)), []) (by kernel_rfl) (detA_none (d_ld_row (enc := eStr) (o := 47) (g := 1) (i := ((Int.tmod x384.service 4).toNat)) (off := 0) (E := 9) (sz := 1) (l := true) [(⟨#[97, 112, 105]⟩ : ByteArray), (⟨#[100, 98]⟩ : ByteArray), (⟨#[119, 101, 98]⟩ : ByteArray), (⟨#[99, 97, 99, 104, 101]⟩ : ByteArray)] x394 (by kernel_rfl) (by kernel_rfl) (by kernel_rfl) h24 (by kernel_rfl))) ?_
  refine l_det (some 53) (.one (.ref 12 1 0 6), []) (by kernel_rfl) ?_
  refine l_det none (.tup [], [(12, 1, .row true 58 14 [[.d (.int .i64 r391), .d (.int .i64 (w64 (i_69 + 1))), .d (.int .i64 0), .d (.int .i64 0), .d (.int .i64 (w64 (1 + (w64 (Int.tmod x384.clock 4))))), .d (.int .i64 r392), .d (.str x394), .d (.str (⟨#[]⟩ : ByteArray)), .d (.str (⟨#[]⟩ : ByteArray)), .d (.int .i64 x389), .d (.int .i64 x390), .d (.bool x384.fail), .nils, .nils]])]) (by kernel_rfl) ?_
  refine l_nil ?_
  refine AW.sregL [(0, none), (1, none), (2, none), (3, none), (4, none), (5, none), (6, none), (7, none)] (by kernel_rfl) ?_
  refine l_det (some 54) (.one (.view 54 1 0 3), [(54, 1, .row true 9 1 [[.d (.str (⟨#[118, 49]⟩ : ByteArray))], [.d (.str (⟨#[118, 50]⟩ : ByteArray))], [.d (.str (⟨#[]⟩ : ByteArray))]])]) (by kernel_rfl) ?_
  refine l_det (some 55) (.one (.ref 11 1 0 4), []) (by kernel_rfl) ?_
  refine l_det (some 56) (.one (.d (.int .u8 x384.version)), []) (by kernel_rfl) ?_
  refine l_det (some 57) (.one (.d (.int .u8 (Int.tmod x384.version 3))), []) (by kernel_rfl) ?_
  obtain ⟨h27, x396, h28, h⟩ := h
  refine l_spec (some 58) (.iad 1 (.t 54) (.t 57)) (.one (.ref 54 1 ((Int.tmod x384.version 3).toNat) 0), []) (by kernel_rfl) (detA_none (d_iad_v (enc := eStr) (k := .u8) (E := 9) (l := true) (ys := dmm (List.map eStr [(⟨#[118, 49]⟩ : ByteArray), (⟨#[118, 50]⟩ : ByteArray), (⟨#[]⟩ : ByteArray)])) [(⟨#[118, 49]⟩ : ByteArray), (⟨#[118, 50]⟩ : ByteArray), (⟨#[]⟩ : ByteArray)] x396 (by kernel_rfl) (by kernel_rfl) (by kernel_rfl) (by kernel_rfl) h27 h28)) ?_
  refine l_spec (some 59) (.ld false 1 (.t 58)) (.one (.d (.str x396)), []) (by kernel_rfl) (detA_none (d_ld_row (enc := eStr) (o := 54) (g := 1) (i := ((Int.tmod x384.version 3).toNat)) (off := 0) (E := 9) (sz := 1) (l := true) [(⟨#[118, 49]⟩ : ByteArray), (⟨#[118, 50]⟩ : ByteArray), (⟨#[]⟩ : ByteArray)] x396 (by kernel_rfl) (by kernel_rfl) (by kernel_rfl) h28 (by kernel_rfl))) ?_
  refine l_det (some 60) (.one (.ref 12 1 0 7), []) (by kernel_rfl) ?_
  refine l_det none (.tup [], [(12, 1, .row true 58 14 [[.d (.int .i64 r391), .d (.int .i64 (w64 (i_69 + 1))), .d (.int .i64 0), .d (.int .i64 0), .d (.int .i64 (w64 (1 + (w64 (Int.tmod x384.clock 4))))), .d (.int .i64 r392), .d (.str x394), .d (.str x396), .d (.str (⟨#[]⟩ : ByteArray)), .d (.int .i64 x389), .d (.int .i64 x390), .d (.bool x384.fail), .nils, .nils]])]) (by kernel_rfl) ?_
  refine l_nil ?_
  refine AW.sregL [(0, none), (1, none), (2, none), (3, none), (4, none), (5, none), (6, none), (7, none)] (by kernel_rfl) ?_
  refine l_det (some 61) (.one (.view 61 1 0 3), [(61, 1, .row true 9 1 [[.d (.str (⟨#[103, 101, 116]⟩ : ByteArray))], [.d (.str (⟨#[112, 117, 116]⟩ : ByteArray))], [.d (.str (⟨#[108, 105, 115, 116]⟩ : ByteArray))]])]) (by kernel_rfl) ?_
  refine l_det (some 62) (.one (.ref 11 1 0 5), []) (by kernel_rfl) ?_
  refine l_det (some 63) (.one (.d (.int .u8 x384.operation)), []) (by kernel_rfl) ?_
  refine l_det (some 64) (.one (.d (.int .u8 (Int.tmod x384.operation 3))), []) (by kernel_rfl) ?_
  obtain ⟨h31, x398, h32, h⟩ := h
  refine l_spec (some 65) (.iad 1 (.t 61) (.t 64)) (.one (.ref 61 1 ((Int.tmod x384.operation 3).toNat) 0), []) (by kernel_rfl) (detA_none (d_iad_v (enc := eStr) (k := .u8) (E := 9) (l := true) (ys := dmm (List.map eStr [(⟨#[103, 101, 116]⟩ : ByteArray), (⟨#[112, 117, 116]⟩ : ByteArray), (⟨#[108, 105, 115, 116]⟩ : ByteArray)])) [(⟨#[103, 101, 116]⟩ : ByteArray), (⟨#[112, 117, 116]⟩ : ByteArray), (⟨#[108, 105, 115, 116]⟩ : ByteArray)] x398 (by kernel_rfl) (by kernel_rfl) (by kernel_rfl) (by kernel_rfl) h31 h32)) ?_
  refine l_spec (some 66) (.ld false 1 (.t 65)) (.one (.d (.str x398)), []) (by kernel_rfl) (detA_none (d_ld_row (enc := eStr) (o := 61) (g := 1) (i := ((Int.tmod x384.operation 3).toNat)) (off := 0) (E := 9) (sz := 1) (l := true) [(⟨#[103, 101, 116]⟩ : ByteArray), (⟨#[112, 117, 116]⟩ : ByteArray), (⟨#[108, 105, 115, 116]⟩ : ByteArray)] x398 (by kernel_rfl) (by kernel_rfl) (by kernel_rfl) h32 (by kernel_rfl))) ?_
  refine l_det (some 67) (.one (.ref 12 1 0 8), []) (by kernel_rfl) ?_
  refine l_det none (.tup [], [(12, 1, .row true 58 14 [[.d (.int .i64 r391), .d (.int .i64 (w64 (i_69 + 1))), .d (.int .i64 0), .d (.int .i64 0), .d (.int .i64 (w64 (1 + (w64 (Int.tmod x384.clock 4))))), .d (.int .i64 r392), .d (.str x394), .d (.str x396), .d (.str x398), .d (.int .i64 x389), .d (.int .i64 x390), .d (.bool x384.fail), .nils, .nils]])]) (by kernel_rfl) ?_
  refine l_nil ?_
  refine AW.seqL (S := Int) (fun s => (fun (v399 : Int) => [(2, .one (.d (.int .i64 i_69))), (3, .one (.d (.sl (List.map (eInt .i64) start_69)))), (10, .one (.ref 200001 0 0 0)), (11, .one (.ref 200002 0 0 0)), (12, .one (.ref 200003 0 0 0))]) s) (fun s => (fun (v399 : Int) => [(200001, .expl true 58 14 [[.d (.int .i64 0), .d (.int .i64 0), .d (.int .i64 0), .d (.int .i64 0), .d (.int .i64 0), .d (.int .i64 0), .d (.str (⟨#[]⟩ : ByteArray)), .d (.str (⟨#[]⟩ : ByteArray)), .d (.str (⟨#[]⟩ : ByteArray)), .d (.int .i64 0), .d (.int .i64 0), .d (.bool false), .nils, .nils]]), (200002, .expl true 153 11 [[.d (.int .u8 x384.parent), .d (.int .u8 x384.clock), .d (.int .u8 x384.kind), .d (.int .u8 x384.service), .d (.int .u8 x384.version), .d (.int .u8 x384.operation), .d (.int .u8 x384.wait), .d (.int .u8 x384.long), .d (.int .u8 x384.link), .d (.int .u8 x384.tag), .d (.bool x384.fail)]]), (200003, .expl true 58 14 [[.d (.int .i64 r391), .d (.int .i64 (w64 (i_69 + 1))), .d (.int .i64 v399), .d (.int .i64 0), .d (.int .i64 (w64 (1 + (w64 (Int.tmod x384.clock 4))))), .d (.int .i64 r392), .d (.str x394), .d (.str x396), .d (.str x398), .d (.int .i64 x389), .d (.int .i64 x390), .d (.bool x384.fail), .nils, .nils]])]) s) (fun s : Int => J69_1 x384 i_69 start_69 K r391 r392 x394 x396 x398 x389 x390 s) ?_ ?_
  · refine AW.sregL [(0, none), (1, none), (2, none), (3, none), (4, none), (5, none), (6, none)] (by kernel_rfl) ?_
    refine l_det (some 68) (.one (.ref 11 1 0 0), []) (by kernel_rfl) ?_
    refine l_det (some 69) (.one (.d (.int .u8 x384.parent)), []) (by kernel_rfl) ?_
    refine l_det (some 70) (.one (.d (.int .i64 (w64 x384.parent))), []) (by kernel_rfl) ?_
    refine l_det (some 71) (.one (.d (.int .i64 i_69)), []) (by kernel_rfl) ?_
    refine l_det (some 72) (.one (.d (.int .i64 (w64 (i_69 + 1)))), []) (by kernel_rfl) ?_
    obtain ⟨h58, h⟩ := h
    refine l_spec (some 73) (.bin .rem (.t 70) (.t 72)) (.one (.d (.int .i64 (Int.tmod (w64 x384.parent) (w64 (i_69 + 1))))), []) (by kernel_rfl) (detA_none (d_rem (w64 x384.parent) (w64 (i_69 + 1)) (by kernel_rfl) (by kernel_rfl) h58)) ?_
    refine l_det (some 13) (.one (.d (.int .i64 (Int.tmod (w64 x384.parent) (w64 (i_69 + 1))))), []) (by kernel_rfl) ?_
    refine l_nil ?_
    refine AW.sregL [(0, none), (1, none), (2, none)] (by kernel_rfl) ?_
    refine l_det (some 74) (.one (.d (.int .i64 (Int.tmod (w64 x384.parent) (w64 (i_69 + 1))))), []) (by kernel_rfl) ?_
    refine l_det (some 75) (.one (.d (.int .i64 i_69)), []) (by kernel_rfl) ?_
    refine l_det (some 76) (.one (.d (.bool (decide ((Int.tmod (w64 x384.parent) (w64 (i_69 + 1))) < i_69)))), []) (by kernel_rfl) ?_
    refine l_nil ?_
    refine AW.cond' (by kernel_rfl) h (fun h => ?_) (fun h => ?_)
    · refine AW.regL [(0, none), (1, none), (2, none), (3, none)] (by kernel_rfl) ?_
      refine l_det (some 77) (.one (.d (.int .i64 (Int.tmod (w64 x384.parent) (w64 (i_69 + 1))))), []) (by kernel_rfl) ?_
      refine l_det (some 78) (.one (.d (.int .i64 (w64 ((Int.tmod (w64 x384.parent) (w64 (i_69 + 1))) + 1)))), []) (by kernel_rfl) ?_
      refine l_det (some 79) (.one (.ref 12 1 0 2), []) (by kernel_rfl) ?_
      refine l_det none (.tup [], [(12, 1, .row true 58 14 [[.d (.int .i64 r391), .d (.int .i64 (w64 (i_69 + 1))), .d (.int .i64 (w64 ((Int.tmod (w64 x384.parent) (w64 (i_69 + 1))) + 1))), .d (.int .i64 0), .d (.int .i64 (w64 (1 + (w64 (Int.tmod x384.clock 4))))), .d (.int .i64 r392), .d (.str x394), .d (.str x396), .d (.str x398), .d (.int .i64 x389), .d (.int .i64 x390), .d (.bool x384.fail), .nils, .nils]])]) (by kernel_rfl) ?_
      refine l_nil ?_
      refine q_fall ?_
      exact Lab.mk (w64 ((Int.tmod (w64 x384.parent) (w64 (i_69 + 1))) + 1)) [(200001, some 10), (200002, some 11), (200003, some 12)] (by kernel_rfl) (by kernel_rfl) (by kernel_rfl) (by kernel_rfl) h
    · refine AW.sregL [(0, none), (1, none)] (by kernel_rfl) ?_
      refine l_det (some 80) (.one (.d (.int .i64 i_69)), []) (by kernel_rfl) ?_
      refine l_det (some 81) (.one (.d (.bool (decide (i_69 > 0)))), []) (by kernel_rfl) ?_
      refine l_nil ?_
      refine AW.cond' (by kernel_rfl) h (fun h => ?_) (fun h => ?_)
      · refine AW.regL [(0, none), (1, none)] (by kernel_rfl) ?_
        refine l_det (some 82) (.one (.ref 12 1 0 2), []) (by kernel_rfl) ?_
        refine l_det none (.tup [], [(12, 1, .row true 58 14 [[.d (.int .i64 r391), .d (.int .i64 (w64 (i_69 + 1))), .d (.int .i64 100), .d (.int .i64 0), .d (.int .i64 (w64 (1 + (w64 (Int.tmod x384.clock 4))))), .d (.int .i64 r392), .d (.str x394), .d (.str x396), .d (.str x398), .d (.int .i64 x389), .d (.int .i64 x390), .d (.bool x384.fail), .nils, .nils]])]) (by kernel_rfl) ?_
        refine l_nil ?_
        refine q_fall ?_
        exact Lab.mk 100 [(200001, some 10), (200002, some 11), (200003, some 12)] (by kernel_rfl) (by kernel_rfl) (by kernel_rfl) (by kernel_rfl) h
      · refine AW.skip ?_
        refine q_fall ?_
        exact Lab.mk 0 [(200001, some 10), (200002, some 11), (200003, some 12)] (by kernel_rfl) (by kernel_rfl) (by kernel_rfl) (by kernel_rfl) h
  · rintro v399 h
    have h : J69_1 x384 i_69 start_69 K r391 r392 x394 x396 x398 x389 x390 v399 := h
    unfold J69_1 at h
    refine AW.seqL (S := (List TRef)) (fun s => (fun (v408 : List TRef) => [(10, .one (.ref 200001 0 0 0)), (11, .one (.ref 200002 0 0 0)), (12, .one (.ref 200003 0 0 0))]) s) (fun s => (fun (v408 : List TRef) => [(200001, .expl true 58 14 [[.d (.int .i64 0), .d (.int .i64 0), .d (.int .i64 0), .d (.int .i64 0), .d (.int .i64 0), .d (.int .i64 0), .d (.str (⟨#[]⟩ : ByteArray)), .d (.str (⟨#[]⟩ : ByteArray)), .d (.str (⟨#[]⟩ : ByteArray)), .d (.int .i64 0), .d (.int .i64 0), .d (.bool false), .nils, .nils]]), (200002, .expl true 153 11 [[.d (.int .u8 x384.parent), .d (.int .u8 x384.clock), .d (.int .u8 x384.kind), .d (.int .u8 x384.service), .d (.int .u8 x384.version), .d (.int .u8 x384.operation), .d (.int .u8 x384.wait), .d (.int .u8 x384.long), .d (.int .u8 x384.link), .d (.int .u8 x384.tag), .d (.bool x384.fail)]]), (200003, .expl true 58 14 [[.d (.int .i64 r391), .d (.int .i64 (w64 (i_69 + 1))), .d (.int .i64 v399), .d (.int .i64 0), .d (.int .i64 (w64 (1 + (w64 (Int.tmod x384.clock 4))))), .d (.int .i64 r392), .d (.str x394), .d (.str x396), .d (.str x398), .d (.int .i64 x389), .d (.int .i64 x390), .d (.bool x384.fail), .nils, .view 200004 0 0 ((List.map TRef.enc v408).length)]]), (200004, .pure true 146 2 (List.map TRef.enc v408))]) s) (fun s : (List TRef) => J69_2 x384 K r391 i_69 v399 r392 x394 x396 x398 x389 x390 s) ?_ ?_
    · refine AW.sregL [(0, none), (1, none), (2, none), (3, none), (4, none)] (by kernel_rfl) ?_
      refine l_det (some 83) (.one (.ref 200002 0 0 8), []) (by kernel_rfl) ?_
      refine l_det (some 84) (.one (.d (.int .u8 x384.link)), []) (by kernel_rfl) ?_
      refine l_det (some 85) (.one (.d (.int .u8 (Int.tmod x384.link 16))), []) (by kernel_rfl) ?_
      refine l_det (some 86) (.one (.d (.int .i64 (w64 (Int.tmod x384.link 16)))), []) (by kernel_rfl) ?_
      refine l_det (some 14) (.one (.d (.int .i64 (w64 (Int.tmod x384.link 16)))), []) (by kernel_rfl) ?_
      refine l_nil ?_
      refine AW.seqL (S := Bool) (fun s => (fun (v415 : Bool) => [(10, .one (.ref 200001 0 0 0)), (11, .one (.ref 200002 0 0 0)), (12, .one (.ref 200003 0 0 0)), (14, .one (.d (.int .i64 (w64 (Int.tmod x384.link 16))))), (100, .one (.d (.bool v415)))]) s) (fun s => (fun (v415 : Bool) => [(200001, .expl true 58 14 [[.d (.int .i64 0), .d (.int .i64 0), .d (.int .i64 0), .d (.int .i64 0), .d (.int .i64 0), .d (.int .i64 0), .d (.str (⟨#[]⟩ : ByteArray)), .d (.str (⟨#[]⟩ : ByteArray)), .d (.str (⟨#[]⟩ : ByteArray)), .d (.int .i64 0), .d (.int .i64 0), .d (.bool false), .nils, .nils]]), (200002, .expl true 153 11 [[.d (.int .u8 x384.parent), .d (.int .u8 x384.clock), .d (.int .u8 x384.kind), .d (.int .u8 x384.service), .d (.int .u8 x384.version), .d (.int .u8 x384.operation), .d (.int .u8 x384.wait), .d (.int .u8 x384.long), .d (.int .u8 x384.link), .d (.int .u8 x384.tag), .d (.bool x384.fail)]]), (200003, .expl true 58 14 [[.d (.int .i64 r391), .d (.int .i64 (w64 (i_69 + 1))), .d (.int .i64 v399), .d (.int .i64 0), .d (.int .i64 (w64 (1 + (w64 (Int.tmod x384.clock 4))))), .d (.int .i64 r392), .d (.str x394), .d (.str x396), .d (.str x398), .d (.int .i64 x389), .d (.int .i64 x390), .d (.bool x384.fail), .nils, .nils]])]) s) (fun s : Bool => J69_3 x384 K r391 i_69 v399 r392 x394 x396 x398 x389 x390 s) ?_ ?_
      · refine AW.regdL follows_mixed [[], [], [0, 1], [0, 1, 2], [0, 1, 2, 3], [0, 1, 2, 3], [0, 1, 2, 3, 4, 5], [0, 1, 2, 3, 4, 5, 6], [0, 1, 2, 3], [0, 1, 2, 3], [0, 1, 2, 3, 8, 9], [0, 1, 2, 3, 8, 9, 10], [0, 1, 2, 3, 4, 5, 6, 7, 8, 9, 10, 11], [0, 1, 2, 3, 4, 5, 6, 7, 8, 9, 10, 11, 12]] [(0, none), (1, none), (2, none), (3, none), (4, none), (5, none), (6, none), (7, none), (8, none), (9, none), (10, none), (11, none), (12, none), (13, none)] (by kernel_rfl) ?_
        refine l_det (some 87) (.one (.d (.int .i64 (w64 (Int.tmod x384.link 16)))), []) (by kernel_rfl) ?_
        refine l_det (some 88) (.one (.d (.int .i64 i_69)), []) (by kernel_rfl) ?_
        refine l_det (some 89) (.one (.d (.bool (decide ((w64 (Int.tmod x384.link 16)) < i_69)))), []) (by kernel_rfl) ?_
        refine l_det (some 90) (.one (.d (.bool (decide ((w64 (Int.tmod x384.link 16)) < i_69)))), []) (by kernel_rfl) ?_
        refine l_split (s := 90) (by kernel_rfl) h (fun h => ?_) (fun h => ?_)
        · refine l_det (some 91) (.one (.d (.sl (List.map (eInt .i64) start_69))), []) (by kernel_rfl) ?_
          refine l_det (some 92) (.one (.d (.int .i64 (w64 (Int.tmod x384.link 16)))), []) (by kernel_rfl) ?_
          obtain ⟨h55, x416, h56, h⟩ := h
          refine l_spec (some 93) (.iad 1 (.t 91) (.t 92)) (.one (.d (.ptr [.int .i64 x416])), []) (by kernel_rfl) (detA_none (d_iad_sl (enc := (eInt .i64)) (k := .i64) start_69 x416 (by kernel_rfl) (by kernel_rfl) h55 h56 rfl)) ?_
          refine l_det (some 94) (.one (.d (.int .i64 x416)), []) (by kernel_rfl) ?_
          refine l_det (some 95) (.one (.d (.sl (List.map (eInt .i64) start_69))), []) (by kernel_rfl) ?_
          refine l_det (some 96) (.one (.d (.int .i64 i_69)), []) (by kernel_rfl) ?_
          refine l_spec (some 97) (.iad 1 (.t 95) (.t 96)) (.one (.d (.ptr [.int .i64 x389])), []) (by kernel_rfl) (detA_none (d_iad_sl (enc := (eInt .i64)) (k := .i64) start_69 x389 (by kernel_rfl) (by kernel_rfl) h15 h16 rfl)) ?_
          refine l_det (some 98) (.one (.d (.int .i64 x389)), []) (by kernel_rfl) ?_
          refine l_det (some 99) (.one (.d (.bool (decide (x416 ≤ x389)))), []) (by kernel_rfl) ?_
          refine l_det (some 100) (.one (.d (.bool (decide (x416 ≤ x389)))), []) (by kernel_rfl) ?_
          refine l_nil ?_
          refine q_fall ?_
          exact Lab.mk (decide (x416 ≤ x389)) [(200001, some 200001), (200002, some 200002), (200003, some 200003)] (by kernel_rfl) (by kernel_rfl) (by kernel_rfl) (by kernel_rfl) h
        · refine l_det (some 91) (.tup [], []) (by kernel_rfl) ?_
          refine l_det (some 92) (.tup [], []) (by kernel_rfl) ?_
          refine l_det (some 93) (.tup [], []) (by kernel_rfl) ?_
          refine l_det (some 94) (.tup [], []) (by kernel_rfl) ?_
          refine l_det (some 95) (.tup [], []) (by kernel_rfl) ?_
          refine l_det (some 96) (.tup [], []) (by kernel_rfl) ?_
          refine l_det (some 97) (.tup [], []) (by kernel_rfl) ?_
          refine l_det (some 98) (.tup [], []) (by kernel_rfl) ?_
          refine l_det (some 99) (.tup [], []) (by kernel_rfl) ?_
          refine l_det (some 100) (.one (.d (.bool false)), []) (by kernel_rfl) ?_
          refine l_nil ?_
          refine q_fall ?_
          exact Lab.mk false [(200001, some 200001), (200002, some 200002), (200003, some 200003)] (by kernel_rfl) (by kernel_rfl) (by kernel_rfl) (by kernel_rfl) h
      · rintro v415 h
        have h : J69_3 x384 K r391 i_69 v399 r392 x394 x396 x398 x389 x390 v415 := h
        unfold J69_3 at h
        refine AW.cond' (by kernel_rfl) h (fun h => ?_) (fun h => ?_)
        · refine AW.regL [(0, none), (1, none), (2, none), (3, none), (4, none), (5, none), (6, none), (7, none)] (by kernel_rfl) ?_
          refine l_det (some 101) (.one (.ref 200003 0 0 0), []) (by kernel_rfl) ?_
          refine l_det (some 102) (.one (.d (.int .i64 r391)), []) (by kernel_rfl) ?_
          refine l_det (some 103) (.one (.d (.int .i64 (w64 (Int.tmod x384.link 16)))), []) (by kernel_rfl) ?_
          refine l_det (some 104) (.one (.d (.int .i64 (w64 ((w64 (Int.tmod x384.link 16)) + 1)))), []) (by kernel_rfl) ?_
          refine l_det (some 105) (.agg [.d (.int .i64 r391), .d (.int .i64 (w64 ((w64 (Int.tmod x384.link 16)) + 1)))], []) (by kernel_rfl) ?_
          refine l_det (some 106) (.one (.view 106 1 0 1), [(106, 1, .row true 146 2 [[.d (.int .i64 r391), .d (.int .i64 (w64 ((w64 (Int.tmod x384.link 16)) + 1)))]])]) (by kernel_rfl) ?_
          refine l_det (some 107) (.one (.ref 200003 0 0 13), []) (by kernel_rfl) ?_
          refine l_det none (.tup [], [(200003, 0, .row true 58 14 [[.d (.int .i64 r391), .d (.int .i64 (w64 (i_69 + 1))), .d (.int .i64 v399), .d (.int .i64 0), .d (.int .i64 (w64 (1 + (w64 (Int.tmod x384.clock 4))))), .d (.int .i64 r392), .d (.str x394), .d (.str x396), .d (.str x398), .d (.int .i64 x389), .d (.int .i64 x390), .d (.bool x384.fail), .nils, .view 106 1 0 1]])]) (by kernel_rfl) ?_
          refine l_nil ?_
          refine q_fall ?_
          exact Lab.mk [(TRef.mk r391 (w64 ((w64 (Int.tmod x384.link 16)) + 1)))] [(200001, some 200001), (200002, some 200002), (200003, some 200003), (200004, some 106)] (by kernel_rfl) (by kernel_rfl) (by kernel_rfl) (by kernel_rfl) h
        · refine AW.skip ?_
          refine q_fall ?_
          exact Lab.mk [] [(200001, some 200001), (200002, some 200002), (200003, some 200003), (200004, none)] (by kernel_rfl) (by kernel_rfl) (by kernel_rfl) (by kernel_rfl) h
    · rintro v408 h
      have h : J69_2 x384 K r391 i_69 v399 r392 x394 x396 x398 x389 x390 v408 := h
      unfold J69_2 at h
      refine AW.sregL [(0, none), (1, none), (2, none), (3, none)] (by kernel_rfl) ?_
      refine l_det (some 108) (.agg [.d (.int .u8 x384.parent), .d (.int .u8 x384.clock), .d (.int .u8 x384.kind), .d (.int .u8 x384.service), .d (.int .u8 x384.version), .d (.int .u8 x384.operation), .d (.int .u8 x384.wait), .d (.int .u8 x384.long), .d (.int .u8 x384.link), .d (.int .u8 x384.tag), .d (.bool x384.fail)], []) (by kernel_rfl) ?_
      refine l_call ok84 en84 (some 109) [.agg [.d (.int .u8 x384.parent), .d (.int .u8 x384.clock), .d (.int .u8 x384.kind), .d (.int .u8 x384.service), .d (.int .u8 x384.version), .d (.int .u8 x384.operation), .d (.int .u8 x384.wait), .d (.int .u8 x384.long), .d (.int .u8 x384.link), .d (.int .u8 x384.tag), .d (.bool x384.fail)]] [false] [.agg (List.map RC.d [.int .u8 x384.parent, .int .u8 x384.clock, .int .u8 x384.kind, .int .u8 x384.service, .int .u8 x384.version, .int .u8 x384.operation, .int .u8 x384.wait, .int .u8 x384.long, .int .u8 x384.link, .int .u8 x384.tag, .bool x384.fail])] [] (by kernel_rfl) ⟨by kernel_rfl, by kernel_rfl⟩ (by kernel_rfl) (by kernel_rfl) (by kernel_rfl) (cl84 x384 h) ?_
      rintro hR _ _ ⟨r412, rfl, rfl, h⟩
      refine ⟨false, (.one (.d (.sl (List.map TAttr.enc r412))), []), (fun hz => (by cases hz)), (ret_R hR (by kernel_rfl)), ?_⟩
      refine l_det (some 110) (.one (.ref 200003 0 0 12), []) (by kernel_rfl) ?_
      refine l_det none (.tup [], [(200003, 0, .row true 58 14 [[.d (.int .i64 r391), .d (.int .i64 (w64 (i_69 + 1))), .d (.int .i64 v399), .d (.int .i64 0), .d (.int .i64 (w64 (1 + (w64 (Int.tmod x384.clock 4))))), .d (.int .i64 r392), .d (.str x394), .d (.str x396), .d (.str x398), .d (.int .i64 x389), .d (.int .i64 x390), .d (.bool x384.fail), .d (.sl (List.map TAttr.enc r412)), .view 200004 0 0 ((List.map TRef.enc v408).length)]])]) (by kernel_rfl) ?_
      refine l_nil ?_
      refine AW.sregL [(0, none), (1, none)] (by kernel_rfl) ?_
      refine l_det (some 111) (.agg [.d (.int .i64 r391), .d (.int .i64 (w64 (i_69 + 1))), .d (.int .i64 v399), .d (.int .i64 0), .d (.int .i64 (w64 (1 + (w64 (Int.tmod x384.clock 4))))), .d (.int .i64 r392), .d (.str x394), .d (.str x396), .d (.str x398), .d (.int .i64 x389), .d (.int .i64 x390), .d (.bool x384.fail), .d (.sl (List.map TAttr.enc r412)), .view 200004 0 0 ((List.map TRef.enc v408).length)], []) (by kernel_rfl) ?_
      refine l_det none (.tup [], [(200001, 0, .row true 58 14 [[.d (.int .i64 r391), .d (.int .i64 (w64 (i_69 + 1))), .d (.int .i64 v399), .d (.int .i64 0), .d (.int .i64 (w64 (1 + (w64 (Int.tmod x384.clock 4))))), .d (.int .i64 r392), .d (.str x394), .d (.str x396), .d (.str x398), .d (.int .i64 x389), .d (.int .i64 x390), .d (.bool x384.fail), .d (.sl (List.map TAttr.enc r412)), .view 200004 0 0 ((List.map TRef.enc v408).length)]])]) (by kernel_rfl) ?_
      refine l_nil ?_
      refine AW.ret ?_
      exact q_end [.agg [.d (.int .i64 r391), .d (.int .i64 (w64 (i_69 + 1))), .d (.int .i64 v399), .d (.int .i64 0), .d (.int .i64 (w64 (1 + (w64 (Int.tmod x384.clock 4))))), .d (.int .i64 r392), .d (.str x394), .d (.str x396), .d (.str x398), .d (.int .i64 x389), .d (.int .i64 x390), .d (.bool x384.fail), .d (.sl (List.map TAttr.enc r412)), .view 200004 0 0 ((List.map TRef.enc v408).length)]] [false] [.agg (List.map RC.d [.int .i64 r391, .int .i64 (w64 (i_69 + 1)), .int .i64 v399, .int .i64 0, .int .i64 (w64 (1 + (w64 (Int.tmod x384.clock 4)))), .int .i64 r392, .str x394, .str x396, .str x398, .int .i64 x389, .int .i64 x390, .bool x384.fail, .sl (List.map TAttr.enc r412), .sl (List.map TRef.enc v408)])] [] [200004] (by kernel_rfl) (ps_plain (pv_agg (pc_cons pf_d (pc_cons pf_d (pc_cons pf_d (pc_cons pf_d (pc_cons pf_d (pc_cons pf_d (pc_cons pf_d (pc_cons pf_d (pc_cons pf_d (pc_cons pf_d (pc_cons pf_d (pc_cons pf_d (pc_cons pf_d (pc_cons (pf_view (E := 146) (sz := 2) (l := true) (List.map TRef.enc v408) (by kernel_rfl) (by kernel_rfl) rfl) pc_nil))))))))))))))) ps_nil) (by kernel_rfl) (by kernel_rfl) (by kernel_rfl) (by kernel_rfl) (Eq.mp (by kernel_rfl) (hK (TSpan.mk r391 (w64 (i_69 + 1)) v399 0 (w64 (1 + (w64 (Int.tmod x384.clock 4)))) r392 x394 x396 x398 x389 x390 x384.fail r412 v408) h)) (.inr rfl)
def r70_0 : List AR := [⟨some 2, .box 27 true 7 (.t 0), [], none⟩,
  ⟨some 4, .mov (.c (.int .i64 0)), [], none⟩]
def r70_1 : List AR := [⟨some 5, .mov (.t 1), [], none⟩,
  ⟨some 6, .cvi .u64 (.t 5), [0], none⟩,
  ⟨some 7, .bin .add (.t 6) (.c (.int .u64 3)), [1], none⟩,
  ⟨some 8, .bin .rem (.t 7) (.c (.int .u64 4)), [2], none⟩,
  ⟨some 9, .fad (.t 2) 1, [], none⟩,
  ⟨some 10, .iaa 4 1 (.t 9) (.t 8), [4, 3], none⟩,
  ⟨some 11, .ld false 1 (.t 10), [5], none⟩,
  ⟨some 12, .cvi .i64 (.t 11), [6], none⟩,
  ⟨some 13, .bin .rem (.t 12) (.c (.int .i64 21)), [7], none⟩,
  ⟨some 4, .mov (.t 13), [8, 0, 1, 2, 3, 4, 5, 6, 7, 8], none⟩]
def c70 : ACode := .seq (.reg r70_0 false) (.seq (.reg r70_1 false) (.ret))
theorem body70 : Try.f70.body.map (comp Try.prog 14) = some c70 := by kernel_rfl
theorem res70 : allSome (Try.f70.results.toList.map (compRes Try.prog)) = some [.s 4] := by kernel_rfl
theorem cok70 {S : FSpec} (h : ∀ args K, S args K → args.all argOk = true ∧ args.length ≤ 14 ∧ AW Try.prog 14 (some ownP) c70 (initS args) (retPost [.s 4] args K)) : COK Try.prog 70 S := of_body Try.func70 Try.ntmps70 body70 res70 h

/-- sleuth/sleuthlaw13.Offset -/
def W70 (s_70 : TStory) (clock_70 : Int) (K : Int → Prop) : Prop :=
  Idx ([s_70.offsets.e0, s_70.offsets.e1, s_70.offsets.e2, s_70.offsets.e3] : List Int) (Int.tmod (IntKind.wrap .u64 ((IntKind.wrap .u64 clock_70) + 3)) 4) fun x420 => K (Int.tmod (w64 x420) 21)

def S70 : FSpec := fun args K => ∃ (s_70 : TStory), ∃ (clock_70 : Int), ∃ (Kr : Int → Prop), args = [.agg (List.map RC.d (TStory.enc s_70)), .one (.d (.int .i64 clock_70))] ∧ W70 s_70 clock_70 Kr ∧ ∀ r, Kr r → K (.one (.d (.int .i64 r))) []

theorem en70 : enters Try.prog 70 = true := by unfold enters; rw [Try.func70]; rfl
theorem cl70 (s_70 : TStory) (clock_70 : Int) {Kr : Int → Prop} (h : W70 s_70 clock_70 Kr) : S70 [.agg (List.map RC.d (TStory.enc s_70)), .one (.d (.int .i64 clock_70))] (fun rv rows => ∃ r, rv = (.one (.d (.int .i64 r))) ∧ rows = [] ∧ Kr r) := ⟨s_70, clock_70, Kr, rfl, h, fun r hr => ⟨r, rfl, rfl, hr⟩⟩

theorem ok70 : COK Try.prog 70 S70 := by
  refine cok70 fun args K0 hS => ?_
  obtain ⟨s_70, clock_70, K, rfl, h, hK⟩ := hS
  refine ⟨by kernel_rfl, by simp, ?_⟩
  unfold W70 at h
  refine AW.sregL [(0, none), (1, none)] (by kernel_rfl) ?_
  refine l_det (some 2) (.one (.ref 2 1 0 0), [(2, 1, .row true 27 7 [[.d (.sl (List.map TTree.enc s_70.trees)), .d (.int .i8 s_70.offsets.e0), .d (.int .i8 s_70.offsets.e1), .d (.int .i8 s_70.offsets.e2), .d (.int .i8 s_70.offsets.e3), .d (.sl (List.map TSync.enc s_70.syncs)), .d (.int .u8 s_70.wrong)]])]) (by kernel_rfl) ?_
  refine l_det (some 4) (.one (.d (.int .i64 0)), []) (by kernel_rfl) ?_
  refine l_nil ?_
  refine AW.sregL [(0, none), (1, none), (2, none), (3, none), (4, none), (5, none), (6, none), (7, none), (8, none), (9, none)] (by kernel_rfl) ?_
  refine l_det (some 5) (.one (.d (.int .i64 clock_70)), []) (by kernel_rfl) ?_
  refine l_det (some 6) (.one (.d (.int .u64 (IntKind.wrap .u64 clock_70))), []) (by kernel_rfl) ?_
  refine l_det (some 7) (.one (.d (.int .u64 (IntKind.wrap .u64 ((IntKind.wrap .u64 clock_70) + 3)))), []) (by kernel_rfl) ?_
  refine l_det (some 8) (.one (.d (.int .u64 (Int.tmod (IntKind.wrap .u64 ((IntKind.wrap .u64 clock_70) + 3)) 4))), []) (by kernel_rfl) ?_
  refine l_det (some 9) (.one (.ref 2 1 0 1), []) (by kernel_rfl) ?_
  obtain ⟨h3, x420, h4, h⟩ := h
  refine l_spec (some 10) (.iaa 4 1 (.t 9) (.t 8)) (.one (.ref 2 1 0 (1 + (Int.tmod (IntKind.wrap .u64 ((IntKind.wrap .u64 clock_70) + 3)) 4).toNat * 1)), []) (by kernel_rfl) (detA_none (d_iaa_ref (k := .u64) [s_70.offsets.e0, s_70.offsets.e1, s_70.offsets.e2, s_70.offsets.e3] (by kernel_rfl) (by kernel_rfl) h3 h4 (by kernel_rfl))) ?_
  refine l_spec (some 11) (.ld false 1 (.t 10)) (.one (.d (.int .i8 x420)), []) (by kernel_rfl) (detA_none (d_ld_arr (o := 2) (g := 1) (i := 0) (off := 1) (kk := (Int.tmod (IntKind.wrap .u64 ((IntKind.wrap .u64 clock_70) + 3)) 4).toNat) (E := 27) (sz := 7) (l := true) (rows := [[.d (.sl (List.map TTree.enc s_70.trees)), .d (.int .i8 s_70.offsets.e0), .d (.int .i8 s_70.offsets.e1), .d (.int .i8 s_70.offsets.e2), .d (.int .i8 s_70.offsets.e3), .d (.sl (List.map TSync.enc s_70.syncs)), .d (.int .u8 s_70.wrong)]]) (cs := [.d (.sl (List.map TTree.enc s_70.trees)), .d (.int .i8 s_70.offsets.e0), .d (.int .i8 s_70.offsets.e1), .d (.int .i8 s_70.offsets.e2), .d (.int .i8 s_70.offsets.e3), .d (.sl (List.map TSync.enc s_70.syncs)), .d (.int .u8 s_70.wrong)]) (rest := [.d (.sl (List.map TSync.enc s_70.syncs)), .d (.int .u8 s_70.wrong)]) [s_70.offsets.e0, s_70.offsets.e1, s_70.offsets.e2, s_70.offsets.e3] x420 (by kernel_rfl) (by kernel_rfl) (by kernel_rfl) (by kernel_rfl) (by kernel_rfl) h4)) ?_
  refine l_det (some 12) (.one (.d (.int .i64 (w64 x420))), []) (by kernel_rfl) ?_
  refine l_det (some 13) (.one (.d (.int .i64 (Int.tmod (w64 x420) 21))), []) (by kernel_rfl) ?_
  refine l_det (some 4) (.one (.d (.int .i64 (Int.tmod (w64 x420) 21))), []) (by kernel_rfl) ?_
  refine l_nil ?_
  refine AW.ret ?_
  exact q_end [.one (.d (.int .i64 (Int.tmod (w64 x420) 21)))] [false] [.one (.d (.int .i64 (Int.tmod (w64 x420) 21)))] [] [] (by kernel_rfl) ⟨by kernel_rfl, by kernel_rfl⟩ (by kernel_rfl) (by kernel_rfl) (by kernel_rfl) (by kernel_rfl) (Eq.mp (by kernel_rfl) (hK (Int.tmod (w64 x420) 21) h)) (.inr rfl)
def r42_0 : List AR := [⟨some 3, .box 27 true 7 (.t 0), [], none⟩,
  ⟨some 6, .mov (.c .nils), [], none⟩]
def r42_1 : List AR := [⟨some 7, .mov (.c .nils), [], none⟩]
def r42_2 : List AR := [⟨some 14, .fad (.t 3) 0, [], none⟩,
  ⟨some 15, .ld false 1 (.t 14), [0], none⟩,
  ⟨some 16, .mov (.t 1), [], none⟩,
  ⟨some 17, .iad 3 (.t 15) (.t 16), [1, 2], none⟩,
  ⟨some 18, .ld true 3 (.t 17), [3], none⟩,
  ⟨some 19, .call 68 [.t 18], [4], none⟩,
  ⟨some 13, .mov (.t 19), [5], none⟩,
  ⟨some 20, .ext (.t 13) 0, [6], none⟩,
  ⟨some 21, .ext (.t 13) 1, [6], none⟩,
  ⟨some 8, .mov (.t 20), [7, 5, 0, 1, 2, 3, 4, 5, 6, 7], none⟩,
  ⟨some 9, .mov (.t 21), [8, 9, 0, 1, 2, 3, 4, 5, 6, 7, 8, 9], none⟩]
def r42_3 : List AR := [⟨some 10, .mov (.c (.int .i64 0)), [], none⟩]
def r42_4 : List AR := [⟨some 22, .mov (.t 10), [], none⟩,
  ⟨some 23, .fad (.t 3) 0, [], none⟩,
  ⟨some 24, .ld false 1 (.t 23), [1], none⟩,
  ⟨some 25, .mov (.t 1), [], none⟩,
  ⟨some 26, .iad 3 (.t 24) (.t 25), [2, 3], none⟩,
  ⟨some 27, .fad (.t 26) 2, [4], none⟩,
  ⟨some 28, .ld false 1 (.t 27), [5], none⟩,
  ⟨some 29, .lens (.t 28), [6], none⟩,
  ⟨some 30, .bin .lss (.t 22) (.t 29), [0, 7], none⟩]
def r42_5 : List AR := [⟨some 33, .ld true 7 (.t 3), [], none⟩,
  ⟨some 34, .mov (.t 1), [], none⟩,
  ⟨some 35, .mov (.t 10), [], none⟩,
  ⟨some 36, .mov (.t 8), [], none⟩,
  ⟨some 37, .mov (.t 9), [], none⟩,
  ⟨some 38, .call 69 [.t 33, .t 34, .t 35, .t 36, .t 37], [0, 1, 2, 3, 4], none⟩,
  ⟨some 11, .alloc 58 true [.int .i64 0, .int .i64 0, .int .i64 0, .int .i64 0, .int .i64 0, .int .i64 0, .str ⟨#[]⟩, .str ⟨#[]⟩, .str ⟨#[]⟩, .int .i64 0, .int .i64 0, .bool false, .nils, .nils], [], none⟩,
  ⟨none, .st 14 (.t 11) (.t 38), [6, 5, 5, 0, 1, 2, 3, 4, 5, 6], none⟩]
def r42_6 : List AR := [⟨some 39, .mov (.t 2), [], none⟩,
  ⟨some 40, .un .not (.t 39), [0], none⟩]
def r42_7 : List AR := [⟨some 41, .ld true 7 (.t 3), [], none⟩,
  ⟨some 42, .fad (.t 11) 4, [], none⟩,
  ⟨some 43, .ld false 1 (.t 42), [1], none⟩,
  ⟨some 44, .call 70 [.t 41, .t 43], [0, 2], none⟩,
  ⟨some 12, .mov (.t 44), [3, 3, 0, 1, 2, 3], none⟩]
def r42_8 : List AR := [⟨some 45, .fad (.t 3) 6, [], none⟩,
  ⟨some 46, .ld false 1 (.t 45), [0], none⟩,
  ⟨some 47, .bin .gtr (.t 46) (.c (.int .u8 0)), [1], none⟩,
  ⟨some 48, .mov (.t 47), [2], none⟩,
  ⟨some 49, .fad (.t 3) 6, [3], some (48, true)⟩,
  ⟨some 50, .ld false 1 (.t 49), [4, 3], some (48, true)⟩,
  ⟨some 51, .cvi .i64 (.t 50), [5, 3], some (48, true)⟩,
  ⟨some 52, .bin .rem (.t 51) (.c (.int .i64 8)), [6, 3], some (48, true)⟩,
  ⟨some 53, .mov (.t 10), [3], some (48, true)⟩,
  ⟨some 54, .bin .eql (.t 52) (.t 53), [7, 8, 3], some (48, true)⟩,
  ⟨some 55, .pick (.t 48) (.t 54) (.c (.bool false)), [3, 9], none⟩,
  ⟨some 56, .mov (.t 55), [10, 3], none⟩,
  ⟨some 57, .fad (.t 3) 6, [11], some (56, true)⟩,
  ⟨some 58, .ld false 1 (.t 57), [12, 11], some (56, true)⟩,
  ⟨some 59, .cvi .i64 (.t 58), [13, 11], some (56, true)⟩,
  ⟨some 60, .bin .quo (.t 59) (.c (.int .i64 8)), [14, 11], some (56, true)⟩,
  ⟨some 61, .bin .rem (.t 60) (.c (.int .i64 3)), [15, 11], some (56, true)⟩,
  ⟨some 62, .mov (.t 1), [11], some (56, true)⟩,
  ⟨some 63, .bin .eql (.t 61) (.t 62), [16, 17, 11], some (56, true)⟩,
  ⟨some 64, .pick (.t 56) (.t 63) (.c (.bool false)), [11, 18], none⟩]
def r42_9 : List AR := [⟨some 65, .mov (.t 12), [], none⟩,
  ⟨some 66, .bin .add (.t 65) (.c (.int .i64 500)), [0], none⟩,
  ⟨some 12, .mov (.t 66), [1, 0, 1], none⟩]
def r42_10 : List AR := [⟨some 67, .fad (.t 11) 9, [], none⟩,
  ⟨some 68, .ld false 1 (.t 67), [0], none⟩,
  ⟨some 69, .mov (.t 12), [], none⟩,
  ⟨some 70, .bin .add (.t 68) (.t 69), [1, 2], none⟩,
  ⟨some 71, .fad (.t 11) 10, [], none⟩,
  ⟨some 72, .ld false 1 (.t 71), [4], none⟩,
  ⟨some 73, .mov (.t 12), [], none⟩,
  ⟨some 74, .bin .add (.t 72) (.t 73), [5, 6], none⟩,
  ⟨some 75, .fad (.t 11) 9, [0, 1, 2, 3, 4, 5], none⟩,
  ⟨none, .st 1 (.t 75) (.t 70), [8, 3, 0, 1, 2, 3, 4, 5], none⟩,
  ⟨some 76, .fad (.t 11) 10, [0, 1, 2, 3, 4, 5, 6, 7, 8, 9], none⟩,
  ⟨none, .st 1 (.t 76) (.t 74), [10, 7, 9, 0, 1, 2, 3, 4, 5, 6, 7, 8, 9], none⟩]
def r42_11 : List AR := [⟨some 77, .mov (.t 7), [], none⟩,
  ⟨some 78, .ld true 14 (.t 11), [], none⟩,
  ⟨some 79, .bsl 58 14 1 [.int .i64 0, .int .i64 0, .int .i64 0, .int .i64 0, .int .i64 0, .int .i64 0, .str ⟨#[]⟩, .str ⟨#[]⟩, .str ⟨#[]⟩, .int .i64 0, .int .i64 0, .bool false, .nils, .nils] [(0, .t 78)], [1], none⟩,
  ⟨some 80, .app 58 14 168 [.int .i64 0, .int .i64 0, .int .i64 0, .int .i64 0, .int .i64 0, .int .i64 0, .str ⟨#[]⟩, .str ⟨#[]⟩, .str ⟨#[]⟩, .int .i64 0, .int .i64 0, .bool false, .nils, .nils] (.t 77) (.t 79), [0, 2], none⟩,
  ⟨some 7, .mov (.t 80), [3, 3, 0, 1, 2, 3], none⟩]
def r42_12 : List AR := [⟨some 31, .mov (.t 10), [], none⟩,
  ⟨some 32, .bin .add (.t 31) (.c (.int .i64 1)), [0], none⟩,
  ⟨some 10, .mov (.t 32), [1, 0, 1], none⟩]
def r42_13 : List AR := [⟨some 81, .mov (.t 7), [], none⟩,
  ⟨some 6, .mov (.t 81), [0, 0], none⟩]
def c42 : ACode := .seq (.reg r42_0 false) (.seq (.reg r42_1 false) (.seq (.reg r42_2 false) (.seq (.seq (.reg r42_3 false) (.blk 0 (.loop (.seq (.seq (.reg r42_4 false) (.cond (.t 30) (.skip) (.exit 0))) (.seq (.blk 1 (.seq (.reg r42_5 false) (.seq (.seq (.reg r42_6 false) (.cond (.t 40) (.seq (.reg r42_7 false) (.seq (.seq (.reg r42_8 false) (.cond (.t 64) (.reg r42_9 false) (.skip))) (.reg r42_10 false))) (.skip))) (.reg r42_11 false)))) (.reg r42_12 false)))))) (.seq (.reg r42_13 false) (.ret)))))
theorem body42 : Try.f42.body.map (comp Try.prog 82) = some c42 := by kernel_rfl
theorem res42 : allSome (Try.f42.results.toList.map (compRes Try.prog)) = some [.s 6] := by kernel_rfl
theorem cok42 {S : FSpec} (h : ∀ args K, S args K → args.all argOk = true ∧ args.length ≤ 82 ∧ AW Try.prog 82 (some ownP) c42 (initS args) (retPost [.s 6] args K)) : COK Try.prog 42 S := of_body Try.func42 Try.ntmps42 body42 res42 h

def J42_2 (v598 : List TSpan) (r668 : TSpan) (N644 : ((List TSpan) × Int) → Prop) (v599 : Int) (v681 : Int) (v682 : Int) : Prop :=
  Fits ((v598 ++ [(TSpan.mk r668.trace r668.id r668.parent r668.revision r668.clock r668.kind r668.service r668.version r668.operation v681 v682 r668.error r668.attrs r668.links)]).length * 168) (N644 ((v598 ++ [(TSpan.mk r668.trace r668.id r668.parent r668.revision r668.clock r668.kind r668.service r668.version r668.operation v681 v682 r668.error r668.attrs r668.links)]), (w64 (v599 + 1))))

def J42_3 (v598 : List TSpan) (r668 : TSpan) (N644 : ((List TSpan) × Int) → Prop) (v599 : Int) (v687 : Int) : Prop :=
  J42_2 v598 r668 N644 v599 (w64 (r668.start + v687)) (w64 (r668.end_ + v687))

def J42_4 (v598 : List TSpan) (r668 : TSpan) (N644 : ((List TSpan) × Int) → Prop) (v599 : Int) (r684 : Int) (v688 : Bool) : Prop :=
  Cond v688 (J42_3 v598 r668 N644 v599 (w64 (r684 + 500))) (J42_3 v598 r668 N644 v599 r684)

def L42_1 (x379 : TTree) (s_42 : TStory) (k_42 : Int) (r380 : ((List Int) × (List Int))) (truly_42 : Bool) (K : (List TSpan) → Prop) (v598 : List TSpan) (v599 : Int) (N644 : ((List TSpan) × Int) → Prop) : Prop :=
  Cond (decide (v599 < (x379.calls.length : Int))) (W69 s_42 k_42 v599 r380.1 r380.2 fun r668 => Cond (!truly_42) (W70 s_42 r668.clock fun r684 => Cond (decide (s_42.wrong > 0)) (Cond (decide ((Int.tmod (w64 s_42.wrong) 8) = v599)) (J42_4 v598 r668 N644 v599 r684 (decide ((Int.tmod (w64 (Int.tdiv (w64 s_42.wrong) 8)) 3) = k_42))) (J42_4 v598 r668 N644 v599 r684 false)) (J42_4 v598 r668 N644 v599 r684 false)) (J42_2 v598 r668 N644 v599 r668.start r668.end_)) (K v598)

/-- sleuth/sleuthlaw13.Trace -/
def W42 (s_42 : TStory) (k_42 : Int) (truly_42 : Bool) (K : (List TSpan) → Prop) : Prop :=
  Idx s_42.trees k_42 fun x379 => W68 x379 fun r380 => LoopW (fun (s : ((List TSpan) × Int)) N644 => L42_1 x379 s_42 k_42 r380 truly_42 K s.1 s.2 N644) ([], 0)

def S42 : FSpec := fun args K => ∃ (s_42 : TStory), ∃ (k_42 : Int), ∃ (truly_42 : Bool), ∃ (Kr : (List TSpan) → Prop), args = [.agg (List.map RC.d (TStory.enc s_42)), .one (.d (.int .i64 k_42)), .one (.d (.bool truly_42))] ∧ W42 s_42 k_42 truly_42 Kr ∧ ∀ r, Kr r → K (.one (.d (.sl (List.map TSpan.enc r)))) []

theorem en42 : enters Try.prog 42 = true := by unfold enters; rw [Try.func42]; rfl
theorem cl42 (s_42 : TStory) (k_42 : Int) (truly_42 : Bool) {Kr : (List TSpan) → Prop} (h : W42 s_42 k_42 truly_42 Kr) : S42 [.agg (List.map RC.d (TStory.enc s_42)), .one (.d (.int .i64 k_42)), .one (.d (.bool truly_42))] (fun rv rows => ∃ r, rv = (.one (.d (.sl (List.map TSpan.enc r)))) ∧ rows = [] ∧ Kr r) := ⟨s_42, k_42, truly_42, Kr, rfl, h, fun r hr => ⟨r, rfl, rfl, hr⟩⟩

theorem ok42 : COK Try.prog 42 S42 := by
  refine cok42 fun args K0 hS => ?_
  obtain ⟨s_42, k_42, truly_42, K, rfl, h, hK⟩ := hS
  refine ⟨by kernel_rfl, by simp, ?_⟩
  unfold W42 at h
  refine AW.sregL [(0, none), (1, none)] (by kernel_rfl) ?_
  refine l_det (some 3) (.one (.ref 3 1 0 0), [(3, 1, .row true 27 7 [[.d (.sl (List.map TTree.enc s_42.trees)), .d (.int .i8 s_42.offsets.e0), .d (.int .i8 s_42.offsets.e1), .d (.int .i8 s_42.offsets.e2), .d (.int .i8 s_42.offsets.e3), .d (.sl (List.map TSync.enc s_42.syncs)), .d (.int .u8 s_42.wrong)]])]) (by kernel_rfl) ?_
  refine l_det (some 6) (.one (.nils), []) (by kernel_rfl) ?_
  refine l_nil ?_
  refine AW.sregL [(0, none)] (by kernel_rfl) ?_
  refine l_det (some 7) (.one (.nils), []) (by kernel_rfl) ?_
  refine l_nil ?_
  refine AW.sregL [(0, none), (1, none), (2, none), (3, none), (4, none), (5, none), (6, none), (7, none), (8, none), (9, none), (10, none)] (by kernel_rfl) ?_
  refine l_det (some 14) (.one (.ref 3 1 0 0), []) (by kernel_rfl) ?_
  refine l_det (some 15) (.one (.d (.sl (List.map TTree.enc s_42.trees))), []) (by kernel_rfl) ?_
  refine l_det (some 16) (.one (.d (.int .i64 k_42)), []) (by kernel_rfl) ?_
  obtain ⟨h4, x379, h5, h⟩ := h
  refine l_spec (some 17) (.iad 3 (.t 15) (.t 16)) (.one (.d (.ptr [.int .u8 x379.slot, .int .u8 x379.start, .sl (List.map TCall.enc x379.calls)])), []) (by kernel_rfl) (detA_none (d_iad_sl (enc := TTree.enc) (k := .i64) s_42.trees x379 (by kernel_rfl) (by kernel_rfl) h4 h5 rfl)) ?_
  refine l_det (some 18) (.agg [.d (.int .u8 x379.slot), .d (.int .u8 x379.start), .d (.sl (List.map TCall.enc x379.calls))], []) (by kernel_rfl) ?_
  refine l_call ok68 en68 (some 19) [.agg [.d (.int .u8 x379.slot), .d (.int .u8 x379.start), .d (.sl (List.map TCall.enc x379.calls))]] [false] [.agg (List.map RC.d [.int .u8 x379.slot, .int .u8 x379.start, .sl (List.map TCall.enc x379.calls)])] [] (by kernel_rfl) ⟨by kernel_rfl, by kernel_rfl⟩ (by kernel_rfl) (by kernel_rfl) (by kernel_rfl) (cl68 x379 h) ?_
  rintro hR _ _ ⟨r380, rfl, rfl, h⟩
  refine ⟨false, (.tup [.one (.d (.sl (List.map (eInt .i64) r380.1))), .one (.d (.sl (List.map (eInt .i64) r380.2)))], []), (fun hz => (by cases hz)), (ret_R hR (by kernel_rfl)), ?_⟩
  refine l_det (some 13) (.tup [.one (.d (.sl (List.map (eInt .i64) r380.1))), .one (.d (.sl (List.map (eInt .i64) r380.2)))], []) (by kernel_rfl) ?_
  refine l_det (some 20) (.one (.d (.sl (List.map (eInt .i64) r380.1))), []) (by kernel_rfl) ?_
  refine l_det (some 21) (.one (.d (.sl (List.map (eInt .i64) r380.2))), []) (by kernel_rfl) ?_
  refine l_det (some 8) (.one (.d (.sl (List.map (eInt .i64) r380.1))), []) (by kernel_rfl) ?_
  refine l_det (some 9) (.one (.d (.sl (List.map (eInt .i64) r380.2))), []) (by kernel_rfl) ?_
  refine l_nil ?_
  refine AW.seq ?_
  refine AW.sregL [(0, none)] (by kernel_rfl) ?_
  refine l_det (some 10) (.one (.d (.int .i64 0)), []) (by kernel_rfl) ?_
  refine l_nil ?_
  refine AW.blk ?_
  refine AW.loopL (S := ((List TSpan) × Int)) (fun s => (fun (v598 : List TSpan) (v599 : Int) => [(1, .one (.d (.int .i64 k_42))), (2, .one (.d (.bool truly_42))), (3, .one (.ref 200001 0 0 0)), (7, .one (.view 200002 0 0 ((List.map TSpan.enc v598).length))), (8, .one (.d (.sl (List.map (eInt .i64) r380.1)))), (9, .one (.d (.sl (List.map (eInt .i64) r380.2)))), (10, .one (.d (.int .i64 v599)))]) s.1 s.2) (fun s => (fun (v598 : List TSpan) (v599 : Int) => [(200001, .expl true 27 7 [[.d (.sl (List.map TTree.enc s_42.trees)), .d (.int .i8 s_42.offsets.e0), .d (.int .i8 s_42.offsets.e1), .d (.int .i8 s_42.offsets.e2), .d (.int .i8 s_42.offsets.e3), .d (.sl (List.map TSync.enc s_42.syncs)), .d (.int .u8 s_42.wrong)]]), (200002, .pure true 58 14 (List.map TSpan.enc v598))]) s.1 s.2) (fun (s : ((List TSpan) × Int)) N644 => L42_1 x379 s_42 k_42 r380 truly_42 K s.1 s.2 N644) (N := fun s => LoopW (fun (s : ((List TSpan) × Int)) N644 => L42_1 x379 s_42 k_42 r380 truly_42 K s.1 s.2 N644) s) (Lab.mk ([], 0) [(200001, some 3), (200002, none)] (by kernel_rfl) (by kernel_rfl) (by kernel_rfl) (by kernel_rfl) h) (fun _ h => h) ?_
  rintro ⟨v598, v599⟩ N644 h
  have h : L42_1 x379 s_42 k_42 r380 truly_42 K v598 v599 N644 := h
  unfold L42_1 at h
  refine AW.seq ?_
  refine AW.sregL [(0, none), (1, none), (2, none), (3, none), (4, none), (5, none), (6, none), (7, none), (8, none)] (by kernel_rfl) ?_
  refine l_det (some 22) (.one (.d (.int .i64 v599)), []) (by kernel_rfl) ?_
  refine l_det (some 23) (.one (.ref 200001 0 0 0), []) (by kernel_rfl) ?_
  refine l_det (some 24) (.one (.d (.sl (List.map TTree.enc s_42.trees))), []) (by kernel_rfl) ?_
  refine l_det (some 25) (.one (.d (.int .i64 k_42)), []) (by kernel_rfl) ?_
  refine l_spec (some 26) (.iad 3 (.t 24) (.t 25)) (.one (.d (.ptr [.int .u8 x379.slot, .int .u8 x379.start, .sl (List.map TCall.enc x379.calls)])), []) (by kernel_rfl) (detA_none (d_iad_sl (enc := TTree.enc) (k := .i64) s_42.trees x379 (by kernel_rfl) (by kernel_rfl) h4 h5 rfl)) ?_
  refine l_det (some 27) (.one (.d (.ptr [.sl (List.map TCall.enc x379.calls)])), []) (by kernel_rfl) ?_
  refine l_det (some 28) (.one (.d (.sl (List.map TCall.enc x379.calls))), []) (by kernel_rfl) ?_
  refine l_spec (some 29) (.lens (.t 28)) (.one (.d (.int .i64 (x379.calls.length : Int))), []) (by kernel_rfl) (detA_none (d_lens_sl (enc := TCall.enc) x379.calls (by kernel_rfl))) ?_
  refine l_det (some 30) (.one (.d (.bool (decide (v599 < (x379.calls.length : Int))))), []) (by kernel_rfl) ?_
  refine l_nil ?_
  refine AW.cond' (by kernel_rfl) h (fun h => ?_) (fun h => ?_)
  · refine AW.skip ?_
    refine q_fall ?_
    refine AW.seq ?_
    refine AW.blk ?_
    refine AW.sregL [(0, none), (1, none), (2, none), (3, none), (4, none), (5, none), (6, none), (7, none)] (by kernel_rfl) ?_
    refine l_det (some 33) (.agg [.d (.sl (List.map TTree.enc s_42.trees)), .d (.int .i8 s_42.offsets.e0), .d (.int .i8 s_42.offsets.e1), .d (.int .i8 s_42.offsets.e2), .d (.int .i8 s_42.offsets.e3), .d (.sl (List.map TSync.enc s_42.syncs)), .d (.int .u8 s_42.wrong)], []) (by kernel_rfl) ?_
    refine l_det (some 34) (.one (.d (.int .i64 k_42)), []) (by kernel_rfl) ?_
    refine l_det (some 35) (.one (.d (.int .i64 v599)), []) (by kernel_rfl) ?_
    refine l_det (some 36) (.one (.d (.sl (List.map (eInt .i64) r380.1))), []) (by kernel_rfl) ?_
    refine l_det (some 37) (.one (.d (.sl (List.map (eInt .i64) r380.2))), []) (by kernel_rfl) ?_
    refine l_call ok69 en69 (some 38) [.agg [.d (.sl (List.map TTree.enc s_42.trees)), .d (.int .i8 s_42.offsets.e0), .d (.int .i8 s_42.offsets.e1), .d (.int .i8 s_42.offsets.e2), .d (.int .i8 s_42.offsets.e3), .d (.sl (List.map TSync.enc s_42.syncs)), .d (.int .u8 s_42.wrong)], .one (.d (.int .i64 k_42)), .one (.d (.int .i64 v599)), .one (.d (.sl (List.map (eInt .i64) r380.1))), .one (.d (.sl (List.map (eInt .i64) r380.2)))] [false, false, false, false, false] [.agg (List.map RC.d [.sl (List.map TTree.enc s_42.trees), .int .i8 s_42.offsets.e0, .int .i8 s_42.offsets.e1, .int .i8 s_42.offsets.e2, .int .i8 s_42.offsets.e3, .sl (List.map TSync.enc s_42.syncs), .int .u8 s_42.wrong]), .one (.d (.int .i64 k_42)), .one (.d (.int .i64 v599)), .one (.d (.sl (List.map (eInt .i64) r380.1))), .one (.d (.sl (List.map (eInt .i64) r380.2)))] [] (by kernel_rfl) ⟨by kernel_rfl, by kernel_rfl⟩ (by kernel_rfl) (by kernel_rfl) (by kernel_rfl) (cl69 s_42 k_42 v599 r380.1 r380.2 h) ?_
    rintro hR _ _ ⟨r668, rfl, rfl, h⟩
    refine ⟨false, (.agg [.d (.int .i64 r668.trace), .d (.int .i64 r668.id), .d (.int .i64 r668.parent), .d (.int .i64 r668.revision), .d (.int .i64 r668.clock), .d (.int .i64 r668.kind), .d (.str r668.service), .d (.str r668.version), .d (.str r668.operation), .d (.int .i64 r668.start), .d (.int .i64 r668.end_), .d (.bool r668.error), .d (.sl (List.map TAttr.enc r668.attrs)), .d (.sl (List.map TRef.enc r668.links))], []), (fun hz => (by cases hz)), (ret_R hR (by kernel_rfl)), ?_⟩
    refine l_det (some 11) (.one (.ref 11 1 0 0), [(11, 1, .row true 58 14 [[.d (.int .i64 0), .d (.int .i64 0), .d (.int .i64 0), .d (.int .i64 0), .d (.int .i64 0), .d (.int .i64 0), .d (.str (⟨#[]⟩ : ByteArray)), .d (.str (⟨#[]⟩ : ByteArray)), .d (.str (⟨#[]⟩ : ByteArray)), .d (.int .i64 0), .d (.int .i64 0), .d (.bool false), .nils, .nils]])]) (by kernel_rfl) ?_
    refine l_det none (.tup [], [(11, 1, .row true 58 14 [[.d (.int .i64 r668.trace), .d (.int .i64 r668.id), .d (.int .i64 r668.parent), .d (.int .i64 r668.revision), .d (.int .i64 r668.clock), .d (.int .i64 r668.kind), .d (.str r668.service), .d (.str r668.version), .d (.str r668.operation), .d (.int .i64 r668.start), .d (.int .i64 r668.end_), .d (.bool r668.error), .d (.sl (List.map TAttr.enc r668.attrs)), .d (.sl (List.map TRef.enc r668.links))]])]) (by kernel_rfl) ?_
    refine l_nil ?_
    refine AW.seqL (S := (Int × Int)) (fun s => (fun (v681 : Int) (v682 : Int) => [(1, .one (.d (.int .i64 k_42))), (2, .one (.d (.bool truly_42))), (3, .one (.ref 200001 0 0 0)), (7, .one (.view 200002 0 0 ((List.map TSpan.enc v598).length))), (8, .one (.d (.sl (List.map (eInt .i64) r380.1)))), (9, .one (.d (.sl (List.map (eInt .i64) r380.2)))), (10, .one (.d (.int .i64 v599))), (11, .one (.ref 200003 0 0 0))]) s.1 s.2) (fun s => (fun (v681 : Int) (v682 : Int) => [(200001, .expl true 27 7 [[.d (.sl (List.map TTree.enc s_42.trees)), .d (.int .i8 s_42.offsets.e0), .d (.int .i8 s_42.offsets.e1), .d (.int .i8 s_42.offsets.e2), .d (.int .i8 s_42.offsets.e3), .d (.sl (List.map TSync.enc s_42.syncs)), .d (.int .u8 s_42.wrong)]]), (200002, .pure true 58 14 (List.map TSpan.enc v598)), (200003, .expl true 58 14 [[.d (.int .i64 r668.trace), .d (.int .i64 r668.id), .d (.int .i64 r668.parent), .d (.int .i64 r668.revision), .d (.int .i64 r668.clock), .d (.int .i64 r668.kind), .d (.str r668.service), .d (.str r668.version), .d (.str r668.operation), .d (.int .i64 v681), .d (.int .i64 v682), .d (.bool r668.error), .d (.sl (List.map TAttr.enc r668.attrs)), .d (.sl (List.map TRef.enc r668.links))]])]) s.1 s.2) (fun s : (Int × Int) => J42_2 v598 r668 N644 v599 s.1 s.2) ?_ ?_
    · refine AW.sregL [(0, none), (1, none)] (by kernel_rfl) ?_
      refine l_det (some 39) (.one (.d (.bool truly_42)), []) (by kernel_rfl) ?_
      refine l_det (some 40) (.one (.d (.bool (!truly_42))), []) (by kernel_rfl) ?_
      refine l_nil ?_
      refine AW.cond' (by kernel_rfl) h (fun h => ?_) (fun h => ?_)
      · refine AW.sregL [(0, none), (1, none), (2, none), (3, none), (4, none)] (by kernel_rfl) ?_
        refine l_det (some 41) (.agg [.d (.sl (List.map TTree.enc s_42.trees)), .d (.int .i8 s_42.offsets.e0), .d (.int .i8 s_42.offsets.e1), .d (.int .i8 s_42.offsets.e2), .d (.int .i8 s_42.offsets.e3), .d (.sl (List.map TSync.enc s_42.syncs)), .d (.int .u8 s_42.wrong)], []) (by kernel_rfl) ?_
        refine l_det (some 42) (.one (.ref 11 1 0 4), []) (by kernel_rfl) ?_
        refine l_det (some 43) (.one (.d (.int .i64 r668.clock)), []) (by kernel_rfl) ?_
        refine l_call ok70 en70 (some 44) [.agg [.d (.sl (List.map TTree.enc s_42.trees)), .d (.int .i8 s_42.offsets.e0), .d (.int .i8 s_42.offsets.e1), .d (.int .i8 s_42.offsets.e2), .d (.int .i8 s_42.offsets.e3), .d (.sl (List.map TSync.enc s_42.syncs)), .d (.int .u8 s_42.wrong)], .one (.d (.int .i64 r668.clock))] [false, false] [.agg (List.map RC.d [.sl (List.map TTree.enc s_42.trees), .int .i8 s_42.offsets.e0, .int .i8 s_42.offsets.e1, .int .i8 s_42.offsets.e2, .int .i8 s_42.offsets.e3, .sl (List.map TSync.enc s_42.syncs), .int .u8 s_42.wrong]), .one (.d (.int .i64 r668.clock))] [] (by kernel_rfl) ⟨by kernel_rfl, by kernel_rfl⟩ (by kernel_rfl) (by kernel_rfl) (by kernel_rfl) (cl70 s_42 r668.clock h) ?_
        rintro hR _ _ ⟨r684, rfl, rfl, h⟩
        refine ⟨false, (.one (.d (.int .i64 r684)), []), (fun hz => (by cases hz)), (ret_R hR (by kernel_rfl)), ?_⟩
        refine l_det (some 12) (.one (.d (.int .i64 r684)), []) (by kernel_rfl) ?_
        refine l_nil ?_
        refine AW.seqL (S := Int) (fun s => (fun (v687 : Int) => [(1, .one (.d (.int .i64 k_42))), (2, .one (.d (.bool truly_42))), (3, .one (.ref 200001 0 0 0)), (7, .one (.view 200002 0 0 ((List.map TSpan.enc v598).length))), (8, .one (.d (.sl (List.map (eInt .i64) r380.1)))), (9, .one (.d (.sl (List.map (eInt .i64) r380.2)))), (10, .one (.d (.int .i64 v599))), (11, .one (.ref 200003 0 0 0)), (12, .one (.d (.int .i64 v687)))]) s) (fun s => (fun (v687 : Int) => [(200001, .expl true 27 7 [[.d (.sl (List.map TTree.enc s_42.trees)), .d (.int .i8 s_42.offsets.e0), .d (.int .i8 s_42.offsets.e1), .d (.int .i8 s_42.offsets.e2), .d (.int .i8 s_42.offsets.e3), .d (.sl (List.map TSync.enc s_42.syncs)), .d (.int .u8 s_42.wrong)]]), (200002, .pure true 58 14 (List.map TSpan.enc v598)), (200003, .expl true 58 14 [[.d (.int .i64 r668.trace), .d (.int .i64 r668.id), .d (.int .i64 r668.parent), .d (.int .i64 r668.revision), .d (.int .i64 r668.clock), .d (.int .i64 r668.kind), .d (.str r668.service), .d (.str r668.version), .d (.str r668.operation), .d (.int .i64 r668.start), .d (.int .i64 r668.end_), .d (.bool r668.error), .d (.sl (List.map TAttr.enc r668.attrs)), .d (.sl (List.map TRef.enc r668.links))]])]) s) (fun s : Int => J42_3 v598 r668 N644 v599 s) ?_ ?_
        · refine AW.seqL (S := Bool) (fun s => (fun (v688 : Bool) => [(1, .one (.d (.int .i64 k_42))), (2, .one (.d (.bool truly_42))), (3, .one (.ref 200001 0 0 0)), (7, .one (.view 200002 0 0 ((List.map TSpan.enc v598).length))), (8, .one (.d (.sl (List.map (eInt .i64) r380.1)))), (9, .one (.d (.sl (List.map (eInt .i64) r380.2)))), (10, .one (.d (.int .i64 v599))), (11, .one (.ref 200003 0 0 0)), (12, .one (.d (.int .i64 r684))), (64, .one (.d (.bool v688)))]) s) (fun s => (fun (v688 : Bool) => [(200001, .expl true 27 7 [[.d (.sl (List.map TTree.enc s_42.trees)), .d (.int .i8 s_42.offsets.e0), .d (.int .i8 s_42.offsets.e1), .d (.int .i8 s_42.offsets.e2), .d (.int .i8 s_42.offsets.e3), .d (.sl (List.map TSync.enc s_42.syncs)), .d (.int .u8 s_42.wrong)]]), (200002, .pure true 58 14 (List.map TSpan.enc v598)), (200003, .expl true 58 14 [[.d (.int .i64 r668.trace), .d (.int .i64 r668.id), .d (.int .i64 r668.parent), .d (.int .i64 r668.revision), .d (.int .i64 r668.clock), .d (.int .i64 r668.kind), .d (.str r668.service), .d (.str r668.version), .d (.str r668.operation), .d (.int .i64 r668.start), .d (.int .i64 r668.end_), .d (.bool r668.error), .d (.sl (List.map TAttr.enc r668.attrs)), .d (.sl (List.map TRef.enc r668.links))]])]) s) (fun s : Bool => J42_4 v598 r668 N644 v599 r684 s) ?_ ?_
          · refine AW.regL [(0, none), (1, none), (2, none), (3, none), (4, none), (5, none), (6, none), (7, none), (8, none), (9, none), (10, none), (11, none), (12, none), (13, none), (14, none), (15, none), (16, none), (17, none), (18, none), (19, none)] (by kernel_rfl) ?_
            refine l_det (some 45) (.one (.ref 200001 0 0 6), []) (by kernel_rfl) ?_
            refine l_det (some 46) (.one (.d (.int .u8 s_42.wrong)), []) (by kernel_rfl) ?_
            refine l_det (some 47) (.one (.d (.bool (decide (s_42.wrong > 0)))), []) (by kernel_rfl) ?_
            refine l_det (some 48) (.one (.d (.bool (decide (s_42.wrong > 0)))), []) (by kernel_rfl) ?_
            refine l_split (s := 48) (by kernel_rfl) h (fun h => ?_) (fun h => ?_)
            · refine l_det (some 49) (.one (.ref 200001 0 0 6), []) (by kernel_rfl) ?_
              refine l_det (some 50) (.one (.d (.int .u8 s_42.wrong)), []) (by kernel_rfl) ?_
              refine l_det (some 51) (.one (.d (.int .i64 (w64 s_42.wrong))), []) (by kernel_rfl) ?_
              refine l_det (some 52) (.one (.d (.int .i64 (Int.tmod (w64 s_42.wrong) 8))), []) (by kernel_rfl) ?_
              refine l_det (some 53) (.one (.d (.int .i64 v599)), []) (by kernel_rfl) ?_
              refine l_det (some 54) (.one (.d (.bool (decide ((Int.tmod (w64 s_42.wrong) 8) = v599)))), []) (by kernel_rfl) ?_
              refine l_det (some 55) (.one (.d (.bool (decide ((Int.tmod (w64 s_42.wrong) 8) = v599)))), []) (by kernel_rfl) ?_
              refine l_det (some 56) (.one (.d (.bool (decide ((Int.tmod (w64 s_42.wrong) 8) = v599)))), []) (by kernel_rfl) ?_
              refine l_split (s := 56) (by kernel_rfl) h (fun h => ?_) (fun h => ?_)
              · refine l_det (some 57) (.one (.ref 200001 0 0 6), []) (by kernel_rfl) ?_
                refine l_det (some 58) (.one (.d (.int .u8 s_42.wrong)), []) (by kernel_rfl) ?_
                refine l_det (some 59) (.one (.d (.int .i64 (w64 s_42.wrong))), []) (by kernel_rfl) ?_
                refine l_det (some 60) (.one (.d (.int .i64 (w64 (Int.tdiv (w64 s_42.wrong) 8)))), []) (by kernel_rfl) ?_
                refine l_det (some 61) (.one (.d (.int .i64 (Int.tmod (w64 (Int.tdiv (w64 s_42.wrong) 8)) 3))), []) (by kernel_rfl) ?_
                refine l_det (some 62) (.one (.d (.int .i64 k_42)), []) (by kernel_rfl) ?_
                refine l_det (some 63) (.one (.d (.bool (decide ((Int.tmod (w64 (Int.tdiv (w64 s_42.wrong) 8)) 3) = k_42)))), []) (by kernel_rfl) ?_
                refine l_det (some 64) (.one (.d (.bool (decide ((Int.tmod (w64 (Int.tdiv (w64 s_42.wrong) 8)) 3) = k_42)))), []) (by kernel_rfl) ?_
                refine l_nil ?_
                refine q_fall ?_
                exact Lab.mk (decide ((Int.tmod (w64 (Int.tdiv (w64 s_42.wrong) 8)) 3) = k_42)) [(200001, some 200001), (200002, some 200002), (200003, some 11)] (by kernel_rfl) (by kernel_rfl) (by kernel_rfl) (by kernel_rfl) h
              · refine l_det (some 57) (.tup [], []) (by kernel_rfl) ?_
                refine l_det (some 58) (.tup [], []) (by kernel_rfl) ?_
                refine l_det (some 59) (.tup [], []) (by kernel_rfl) ?_
                refine l_det (some 60) (.tup [], []) (by kernel_rfl) ?_
                refine l_det (some 61) (.tup [], []) (by kernel_rfl) ?_
                refine l_det (some 62) (.tup [], []) (by kernel_rfl) ?_
                refine l_det (some 63) (.tup [], []) (by kernel_rfl) ?_
                refine l_det (some 64) (.one (.d (.bool false)), []) (by kernel_rfl) ?_
                refine l_nil ?_
                refine q_fall ?_
                exact Lab.mk false [(200001, some 200001), (200002, some 200002), (200003, some 11)] (by kernel_rfl) (by kernel_rfl) (by kernel_rfl) (by kernel_rfl) h
            · refine l_det (some 49) (.tup [], []) (by kernel_rfl) ?_
              refine l_det (some 50) (.tup [], []) (by kernel_rfl) ?_
              refine l_det (some 51) (.tup [], []) (by kernel_rfl) ?_
              refine l_det (some 52) (.tup [], []) (by kernel_rfl) ?_
              refine l_det (some 53) (.tup [], []) (by kernel_rfl) ?_
              refine l_det (some 54) (.tup [], []) (by kernel_rfl) ?_
              refine l_det (some 55) (.one (.d (.bool false)), []) (by kernel_rfl) ?_
              refine l_det (some 56) (.one (.d (.bool false)), []) (by kernel_rfl) ?_
              refine l_det (some 57) (.tup [], []) (by kernel_rfl) ?_
              refine l_det (some 58) (.tup [], []) (by kernel_rfl) ?_
              refine l_det (some 59) (.tup [], []) (by kernel_rfl) ?_
              refine l_det (some 60) (.tup [], []) (by kernel_rfl) ?_
              refine l_det (some 61) (.tup [], []) (by kernel_rfl) ?_
              refine l_det (some 62) (.tup [], []) (by kernel_rfl) ?_
              refine l_det (some 63) (.tup [], []) (by kernel_rfl) ?_
              refine l_det (some 64) (.one (.d (.bool false)), []) (by kernel_rfl) ?_
              refine l_nil ?_
              refine q_fall ?_
              exact Lab.mk false [(200001, some 200001), (200002, some 200002), (200003, some 11)] (by kernel_rfl) (by kernel_rfl) (by kernel_rfl) (by kernel_rfl) h
          · rintro v688 h
            have h : J42_4 v598 r668 N644 v599 r684 v688 := h
            unfold J42_4 at h
            refine AW.cond' (by kernel_rfl) h (fun h => ?_) (fun h => ?_)
            · refine AW.regL [(0, none), (1, none), (2, none)] (by kernel_rfl) ?_
              refine l_det (some 65) (.one (.d (.int .i64 r684)), []) (by kernel_rfl) ?_
              refine l_det (some 66) (.one (.d (.int .i64 (w64 (r684 + 500)))), []) (by kernel_rfl) ?_
              refine l_det (some 12) (.one (.d (.int .i64 (w64 (r684 + 500)))), []) (by kernel_rfl) ?_
              refine l_nil ?_
              refine q_fall ?_
              exact Lab.mk (w64 (r684 + 500)) [(200001, some 200001), (200002, some 200002), (200003, some 200003)] (by kernel_rfl) (by kernel_rfl) (by kernel_rfl) (by kernel_rfl) h
            · refine AW.skip ?_
              refine q_fall ?_
              exact Lab.mk r684 [(200001, some 200001), (200002, some 200002), (200003, some 200003)] (by kernel_rfl) (by kernel_rfl) (by kernel_rfl) (by kernel_rfl) h
        · rintro v687 h
          have h : J42_3 v598 r668 N644 v599 v687 := h
          unfold J42_3 at h
          refine AW.regL [(0, none), (1, none), (2, none), (3, none), (4, none), (5, none), (6, none), (7, none), (8, none), (9, none), (10, none), (11, none)] (by kernel_rfl) ?_
          refine l_det (some 67) (.one (.ref 200003 0 0 9), []) (by kernel_rfl) ?_
          refine l_det (some 68) (.one (.d (.int .i64 r668.start)), []) (by kernel_rfl) ?_
          refine l_det (some 69) (.one (.d (.int .i64 v687)), []) (by kernel_rfl) ?_
          refine l_det (some 70) (.one (.d (.int .i64 (w64 (r668.start + v687)))), []) (by kernel_rfl) ?_
          refine l_det (some 71) (.one (.ref 200003 0 0 10), []) (by kernel_rfl) ?_
          refine l_det (some 72) (.one (.d (.int .i64 r668.end_)), []) (by kernel_rfl) ?_
          refine l_det (some 73) (.one (.d (.int .i64 v687)), []) (by kernel_rfl) ?_
          refine l_det (some 74) (.one (.d (.int .i64 (w64 (r668.end_ + v687)))), []) (by kernel_rfl) ?_
          refine l_det (some 75) (.one (.ref 200003 0 0 9), []) (by kernel_rfl) ?_
          refine l_det none (.tup [], [(200003, 0, .row true 58 14 [[.d (.int .i64 r668.trace), .d (.int .i64 r668.id), .d (.int .i64 r668.parent), .d (.int .i64 r668.revision), .d (.int .i64 r668.clock), .d (.int .i64 r668.kind), .d (.str r668.service), .d (.str r668.version), .d (.str r668.operation), .d (.int .i64 (w64 (r668.start + v687))), .d (.int .i64 r668.end_), .d (.bool r668.error), .d (.sl (List.map TAttr.enc r668.attrs)), .d (.sl (List.map TRef.enc r668.links))]])]) (by kernel_rfl) ?_
          refine l_det (some 76) (.one (.ref 200003 0 0 10), []) (by kernel_rfl) ?_
          refine l_det none (.tup [], [(200003, 0, .row true 58 14 [[.d (.int .i64 r668.trace), .d (.int .i64 r668.id), .d (.int .i64 r668.parent), .d (.int .i64 r668.revision), .d (.int .i64 r668.clock), .d (.int .i64 r668.kind), .d (.str r668.service), .d (.str r668.version), .d (.str r668.operation), .d (.int .i64 (w64 (r668.start + v687))), .d (.int .i64 (w64 (r668.end_ + v687))), .d (.bool r668.error), .d (.sl (List.map TAttr.enc r668.attrs)), .d (.sl (List.map TRef.enc r668.links))]])]) (by kernel_rfl) ?_
          refine l_nil ?_
          refine q_fall ?_
          exact Lab.mk ((w64 (r668.start + v687)), (w64 (r668.end_ + v687))) [(200001, some 200001), (200002, some 200002), (200003, some 200003)] (by kernel_rfl) (by kernel_rfl) (by kernel_rfl) (by kernel_rfl) h
      · refine AW.skip ?_
        refine q_fall ?_
        exact Lab.mk (r668.start, r668.end_) [(200001, some 200001), (200002, some 200002), (200003, some 11)] (by kernel_rfl) (by kernel_rfl) (by kernel_rfl) (by kernel_rfl) h
    · rintro ⟨v681, v682⟩ h
      have h : J42_2 v598 r668 N644 v599 v681 v682 := h
      unfold J42_2 at h
      refine AW.regL [(0, none), (1, none), (2, none), (3, none), (4, none)] (by kernel_rfl) ?_
      refine l_det (some 77) (.one (.view 200002 0 0 ((List.map TSpan.enc v598).length)), []) (by kernel_rfl) ?_
      refine l_det (some 78) (.agg [.d (.int .i64 r668.trace), .d (.int .i64 r668.id), .d (.int .i64 r668.parent), .d (.int .i64 r668.revision), .d (.int .i64 r668.clock), .d (.int .i64 r668.kind), .d (.str r668.service), .d (.str r668.version), .d (.str r668.operation), .d (.int .i64 v681), .d (.int .i64 v682), .d (.bool r668.error), .d (.sl (List.map TAttr.enc r668.attrs)), .d (.sl (List.map TRef.enc r668.links))], []) (by kernel_rfl) ?_
      refine l_det (some 79) (.one (.view 79 1 0 1), [(79, 1, .row true 58 14 [[.d (.int .i64 r668.trace), .d (.int .i64 r668.id), .d (.int .i64 r668.parent), .d (.int .i64 r668.revision), .d (.int .i64 r668.clock), .d (.int .i64 r668.kind), .d (.str r668.service), .d (.str r668.version), .d (.str r668.operation), .d (.int .i64 v681), .d (.int .i64 v682), .d (.bool r668.error), .d (.sl (List.map TAttr.enc r668.attrs)), .d (.sl (List.map TRef.enc r668.links))]])]) (by kernel_rfl) ?_
      obtain ⟨h112, h⟩ := h
      refine l_spec (some 80) (.app 58 14 168 [.int .i64 0, .int .i64 0, .int .i64 0, .int .i64 0, .int .i64 0, .int .i64 0, .str ⟨#[]⟩, .str ⟨#[]⟩, .str ⟨#[]⟩, .int .i64 0, .int .i64 0, .bool false, .nils, .nils] (.t 77) (.t 79)) (.one (.view 200002 1 0 ((List.map TSpan.enc (v598 ++ [(TSpan.mk r668.trace r668.id r668.parent r668.revision r668.clock r668.kind r668.service r668.version r668.operation v681 v682 r668.error r668.attrs r668.links)])).length)), [(200002, 1, .row true 58 14 (dmm (List.map TSpan.enc (v598 ++ [(TSpan.mk r668.trace r668.id r668.parent r668.revision r668.clock r668.kind r668.service r668.version r668.operation v681 v682 r668.error r668.attrs r668.links)]))))]) (by kernel_rfl) (detA_none (d_app_v (enc := TSpan.enc) (xc := .view 79 1 0 1) v598 [(TSpan.mk r668.trace r668.id r668.parent r668.revision r668.clock r668.kind r668.service r668.version r668.operation v681 v682 r668.error r668.attrs r668.links)] (by kernel_rfl) (by kernel_rfl) (by kernel_rfl) (by kernel_rfl) (by kernel_rfl) h112 (by kernel_rfl))) ?_
      refine l_det (some 7) (.one (.view 200002 1 0 ((List.map TSpan.enc (v598 ++ [(TSpan.mk r668.trace r668.id r668.parent r668.revision r668.clock r668.kind r668.service r668.version r668.operation v681 v682 r668.error r668.attrs r668.links)])).length)), []) (by kernel_rfl) ?_
      refine l_nil ?_
      refine q_bfall ?_
      refine q_fall ?_
      refine AW.regL [(0, none), (1, none), (2, none)] (by kernel_rfl) ?_
      refine l_det (some 31) (.one (.d (.int .i64 v599)), []) (by kernel_rfl) ?_
      refine l_det (some 32) (.one (.d (.int .i64 (w64 (v599 + 1)))), []) (by kernel_rfl) ?_
      refine l_det (some 10) (.one (.d (.int .i64 (w64 (v599 + 1)))), []) (by kernel_rfl) ?_
      refine l_nil ?_
      refine q_fall ?_
      exact Lab.mk ((v598 ++ [(TSpan.mk r668.trace r668.id r668.parent r668.revision r668.clock r668.kind r668.service r668.version r668.operation v681 v682 r668.error r668.attrs r668.links)]), (w64 (v599 + 1))) [(200001, some 200001), (200002, some 200002)] (by kernel_rfl) (by kernel_rfl) (by kernel_rfl) (by kernel_rfl) h
  · refine AW.exit ?_
    refine q_exit ?_
    refine q_exit ?_
    refine q_bhere ?_
    refine q_fall ?_
    refine AW.sregL [(0, none), (1, none)] (by kernel_rfl) ?_
    refine l_det (some 81) (.one (.view 200002 0 0 ((List.map TSpan.enc v598).length)), []) (by kernel_rfl) ?_
    refine l_det (some 6) (.one (.view 200002 0 0 ((List.map TSpan.enc v598).length)), []) (by kernel_rfl) ?_
    refine l_nil ?_
    refine AW.ret ?_
    exact q_end [.one (.view 200002 0 0 ((List.map TSpan.enc v598).length))] [false] [.one (.d (.sl (List.map TSpan.enc v598)))] [] [200002] (by kernel_rfl) (ps_plain (pv_one (pf_view (E := 58) (sz := 14) (l := true) (List.map TSpan.enc v598) (by kernel_rfl) (by kernel_rfl) rfl)) ps_nil) (by kernel_rfl) (by kernel_rfl) (by kernel_rfl) (by kernel_rfl) (Eq.mp (by kernel_rfl) (hK v598 h)) (.inr rfl)
end Go.Proofs.Ytnpdeecoejabgaa
