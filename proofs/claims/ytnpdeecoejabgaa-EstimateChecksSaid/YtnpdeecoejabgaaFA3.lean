/- Go functions: their shallow forms, and that they keep their contracts. Printed by a program of mine (gs.py). -/
import Derived.Test.YtnpdeecoejabgaaFA2
set_option maxRecDepth 100000
set_option linter.unusedVariables false
set_option linter.unusedSimpArgs false
namespace Go.Proofs.Ytnpdeecoejabgaa
open Go Go.RowKit

def r57_0 : List AR := [⟨some 2, .mov (.c (.int .i64 0)), [], none⟩]
def r57_1 : List AR := [⟨some 5, .mov (.t 0), [], none⟩,
  ⟨some 6, .lens (.t 5), [0], none⟩,
  ⟨some 7, .bin .gtr (.t 6) (.c (.int .i64 16)), [1], none⟩]
def r57_2 : List AR := [⟨some 2, .mov (.c (.int .i64 6)), [], none⟩]
def r57_3 : List AR := [⟨some 8, .mov (.t 0), [], none⟩,
  ⟨some 9, .lens (.t 8), [0], none⟩,
  ⟨some 10, .mov (.c (.int .i64 0)), [], none⟩]
def r57_4 : List AR := [⟨some 11, .bin .lss (.t 10) (.t 9), [], none⟩]
def r57_5 : List AR := [⟨some 12, .mov (.t 10), [], none⟩,
  ⟨some 13, .iad 2 (.t 8) (.t 10), [], none⟩,
  ⟨some 14, .ld true 2 (.t 13), [1], none⟩,
  ⟨some 4, .alloc 146 true [.int .i64 0, .int .i64 0], [], none⟩,
  ⟨some 3, .mov (.t 12), [0, 0, 1, 2, 3], none⟩,
  ⟨none, .st 2 (.t 4) (.t 14), [3, 2, 4, 0, 1, 2, 3, 4], none⟩]
def r57_6 : List AR := [⟨some 16, .fad (.t 4) 0, [], none⟩,
  ⟨some 17, .ld false 1 (.t 16), [0], none⟩,
  ⟨some 18, .call 53 [.t 17], [1], none⟩,
  ⟨some 19, .mov (.t 18), [2, 2], none⟩,
  ⟨some 20, .fad (.t 4) 1, [3], some (19, false)⟩,
  ⟨some 21, .ld false 1 (.t 20), [4, 3], some (19, false)⟩,
  ⟨some 22, .call 53 [.t 21], [5, 3, 3], some (19, false)⟩,
  ⟨some 23, .pick (.t 19) (.c (.bool true)) (.t 22), [3, 6], none⟩,
  ⟨some 15, .mov (.t 23), [7, 6], none⟩]
def r57_7 : List AR := [⟨some 2, .mov (.c (.int .i64 2)), [], none⟩]
def r57_8 : List AR := [⟨some 25, .mov (.t 3), [], none⟩,
  ⟨some 26, .bin .gtr (.t 25) (.c (.int .i64 0)), [0], none⟩,
  ⟨some 27, .mov (.t 26), [1], none⟩,
  ⟨some 28, .mov (.t 0), [2], some (27, true)⟩,
  ⟨some 29, .mov (.t 3), [2], some (27, true)⟩,
  ⟨some 30, .bin .sub (.t 29) (.c (.int .i64 1)), [4, 2], some (27, true)⟩,
  ⟨some 31, .iad 2 (.t 28) (.t 30), [3, 5, 2], some (27, true)⟩,
  ⟨some 32, .ld true 2 (.t 31), [6, 2], some (27, true)⟩,
  ⟨some 33, .ld true 2 (.t 4), [2], some (27, true)⟩,
  ⟨some 34, .call 77 [.t 32, .t 33], [7, 8, 2, 2], some (27, true)⟩,
  ⟨some 35, .bin .geq (.t 34) (.c (.int .i64 0)), [9, 2], some (27, true)⟩,
  ⟨some 36, .pick (.t 27) (.t 35) (.c (.bool false)), [2, 10], none⟩,
  ⟨some 24, .mov (.t 36), [11, 9], none⟩]
def r57_9 : List AR := [⟨some 2, .mov (.c (.int .i64 8)), [], none⟩]
def r57_10 : List AR := [⟨some 37, .bin .add (.t 10) (.c (.int .i64 1)), [], none⟩,
  ⟨some 10, .mov (.t 37), [0], none⟩]
def r57_11 : List AR := [⟨some 2, .mov (.c (.int .i64 0)), [], none⟩]
def c57 : ACode := .seq (.reg r57_0 false) (.seq (.seq (.reg r57_1 false) (.cond (.t 7) (.seq (.reg r57_2 false) (.ret)) (.skip))) (.seq (.seq (.reg r57_3 false) (.blk 0 (.loop (.seq (.reg r57_4 false) (.seq (.cond (.t 11) (.skip) (.exit 0)) (.seq (.blk 1 (.seq (.reg r57_5 false) (.blk 2 (.seq (.reg r57_6 false) (.cond (.t 15) (.seq (.reg r57_7 false) (.ret)) (.seq (.reg r57_8 true) (.cond (.t 24) (.seq (.reg r57_9 false) (.ret)) (.skip)))))))) (.reg r57_10 false))))))) (.seq (.reg r57_11 false) (.ret))))
theorem body57 : Try.f57.body.map (comp Try.prog 38) = some c57 := by kernel_rfl
theorem res57 : allSome (Try.f57.results.toList.map (compRes Try.prog)) = some [.s 2] := by kernel_rfl
theorem cok57 {S : FSpec} (h : ∀ args K, S args K → args.all argOk = true ∧ args.length ≤ 38 ∧ AW Try.prog 38 (some ownP) c57 (initS args) (retPost [.s 2] args K)) : COK Try.prog 57 S := of_body Try.func57 Try.ntmps57 body57 res57 h

def J57_3 (K : Int → Prop) (N3279 : Int → Prop) (v3246 : Int) (v3307 : Bool) : Prop :=
  Cond v3307 (K 8) (N3279 (w64 (v3246 + 1)))

def J57_2 (K : Int → Prop) (v3246 : Int) (l_57 : List TRef) (x3297 : TRef) (N3279 : Int → Prop) (v3302 : Bool) : Prop :=
  Cond v3302 (K 2) (Cond (decide (v3246 > 0)) (Idx l_57 (w64 (v3246 - 1)) fun x3308 => W77 x3308 x3297 fun r3309 => J57_3 K N3279 v3246 (decide (r3309 ≥ 0))) (J57_3 K N3279 v3246 false))

def L57_1 (l_57 : List TRef) (K : Int → Prop) (v3246 : Int) (N3279 : Int → Prop) : Prop :=
  Cond (decide (v3246 < (l_57.length : Int))) (Idx l_57 v3246 fun x3297 => W53 x3297.trace fun r3310 => Cond r3310 (J57_2 K v3246 l_57 x3297 N3279 true) (W53 x3297.id fun r3311 => J57_2 K v3246 l_57 x3297 N3279 r3311)) (K 0)

/-- sleuth/span.checkLinks -/
def W57 (l_57 : List TRef) (K : Int → Prop) : Prop :=
  Cond (decide ((l_57.length : Int) > 16)) (K 6) (LoopW (fun (s : Int) N3279 => L57_1 l_57 K s N3279) 0)

def S57 : FSpec := fun args K => ∃ (l_57 : List TRef), ∃ (Kr : Int → Prop), args = [.one (.d (.sl (List.map TRef.enc l_57)))] ∧ W57 l_57 Kr ∧ ∀ r, Kr r → K (.one (.d (.int .i64 r))) []

theorem en57 : enters Try.prog 57 = true := by unfold enters; rw [Try.func57]; rfl
theorem cl57 (l_57 : List TRef) {Kr : Int → Prop} (h : W57 l_57 Kr) : S57 [.one (.d (.sl (List.map TRef.enc l_57)))] (fun rv rows => ∃ r, rv = (.one (.d (.int .i64 r))) ∧ rows = [] ∧ Kr r) := ⟨l_57, Kr, rfl, h, fun r hr => ⟨r, rfl, rfl, hr⟩⟩

theorem ok57 : COK Try.prog 57 S57 := by
  refine cok57 fun args K0 hS => ?_
  obtain ⟨l_57, K, rfl, h, hK⟩ := hS
  refine ⟨by kernel_rfl, by simp, ?_⟩
  unfold W57 at h
  refine AW.sregL [(0, none)] (by kernel_rfl) ?_
  refine l_ds 2 (.one (.d (.int .i64 0))) ?_
  refine l_nil ?_
  refine AW.seq ?_
  refine AW.sregL [(0, none), (1, none), (2, none)] (by kernel_rfl) ?_
  refine l_ds 5 (.one (.d (.sl (List.map TRef.enc l_57)))) ?_
  refine l_spec (some 6) (.lens (.t 5)) (.one (.d (.int .i64 (l_57.length : Int))), []) (by kernel_rfl) (detA_none (d_lens_sl (enc := TRef.enc) l_57 (by kernel_rfl))) ?_
  refine l_ds 7 (.one (.d (.bool (decide ((l_57.length : Int) > 16))))) ?_
  refine l_nil ?_
  refine AW.cond' (by kernel_rfl) h (fun h => ?_) (fun h => ?_)
  · refine AW.sregL [(0, none)] (by kernel_rfl) ?_
    refine l_ds 2 (.one (.d (.int .i64 6))) ?_
    refine l_nil ?_
    refine AW.ret ?_
    refine q_ret ?_
    exact q_end [.one (.d (.int .i64 6))] [false] [.one (.d (.int .i64 6))] [] [] (by kernel_rfl) ⟨by kernel_rfl, by kernel_rfl⟩ (by kernel_rfl) (by kernel_rfl) (by kernel_rfl) (by kernel_rfl) (Eq.mp (by kernel_rfl) (hK 6 h)) (.inr rfl)
  · refine AW.skip ?_
    refine q_fall ?_
    refine AW.seq ?_
    refine AW.sregL [(0, none), (1, none), (2, none)] (by kernel_rfl) ?_
    refine l_ds 8 (.one (.d (.sl (List.map TRef.enc l_57)))) ?_
    refine l_spec (some 9) (.lens (.t 8)) (.one (.d (.int .i64 (l_57.length : Int))), []) (by kernel_rfl) (detA_none (d_lens_sl (enc := TRef.enc) l_57 (by kernel_rfl))) ?_
    refine l_ds 10 (.one (.d (.int .i64 0))) ?_
    refine l_nil ?_
    refine AW.blk ?_
    refine AW.loopL (S := Int) (fun s => (fun (v3246 : Int) => [(0, .one (.d (.sl (List.map TRef.enc l_57)))), (8, .one (.d (.sl (List.map TRef.enc l_57)))), (9, .one (.d (.int .i64 (l_57.length : Int)))), (10, .one (.d (.int .i64 v3246)))]) s) (fun s => (fun (v3246 : Int) => []) s) (fun (s : Int) N3279 => L57_1 l_57 K s N3279) (N := fun s => LoopW (fun (s : Int) N3279 => L57_1 l_57 K s N3279) s) (Lab.m 0 [] h) (fun _ h => h) ?_
    rintro v3246 N3279 h
    have h : L57_1 l_57 K v3246 N3279 := h
    unfold L57_1 at h
    refine AW.sregL [(0, none)] (by kernel_rfl) ?_
    refine l_ds 11 (.one (.d (.bool (decide (v3246 < (l_57.length : Int)))))) ?_
    refine l_nil ?_
    refine AW.seq ?_
    refine AW.cond' (by kernel_rfl) h (fun h => ?_) (fun h => ?_)
    · refine AW.skip ?_
      refine q_fall ?_
      refine AW.seq ?_
      refine AW.blk ?_
      refine AW.sregL [(0, none), (1, none), (2, none), (3, none), (4, none), (5, none)] (by kernel_rfl) ?_
      refine l_ds 12 (.one (.d (.int .i64 v3246))) ?_
      obtain ⟨h176, x3297, h177, h⟩ := h
      refine l_spec (some 13) (.iad 2 (.t 8) (.t 10)) (.one (.d (.ptr [.int .i64 x3297.trace, .int .i64 x3297.id])), []) (by kernel_rfl) (detA_none (d_iad_sl (enc := TRef.enc) (k := .i64) l_57 x3297 (by kernel_rfl) (by kernel_rfl) h176 h177 rfl)) ?_
      refine l_ds 14 (.agg [.d (.int .i64 x3297.trace), .d (.int .i64 x3297.id)]) ?_
      refine l_det (some 4) (.one (.ref 4 1 0 0), [(4, 1, .row true 146 2 [[.d (.int .i64 0), .d (.int .i64 0)]])]) (by kernel_rfl) ?_
      refine l_ds 3 (.one (.d (.int .i64 v3246))) ?_
      refine l_det none (.tup [], [(4, 1, .row true 146 2 [[.d (.int .i64 x3297.trace), .d (.int .i64 x3297.id)]])]) (by kernel_rfl) ?_
      refine l_nil ?_
      refine AW.blk ?_
      refine AW.seqL (S := Bool) (fun s => (fun (v3302 : Bool) => [(0, .one (.d (.sl (List.map TRef.enc l_57)))), (3, .one (.d (.int .i64 v3246))), (4, .one (.ref 200001 0 0 0)), (8, .one (.d (.sl (List.map TRef.enc l_57)))), (9, .one (.d (.int .i64 (l_57.length : Int)))), (10, .one (.d (.int .i64 v3246))), (15, .one (.d (.bool v3302)))]) s) (fun s => (fun (v3302 : Bool) => [(200001, .expl true 146 2 [[.d (.int .i64 x3297.trace), .d (.int .i64 x3297.id)]])]) s) (fun s : Bool => J57_2 K v3246 l_57 x3297 N3279 s) ?_ ?_
      · refine AW.regL [(0, none), (1, none), (2, none), (3, none), (4, none), (5, none), (6, none), (7, none), (8, none)] (by kernel_rfl) ?_
        refine l_ds 16 (.one (.ref 4 1 0 0)) ?_
        refine l_ds 17 (.one (.d (.int .i64 x3297.trace))) ?_
        refine l_call ok53 en53 (some 18) [.one (.d (.int .i64 x3297.trace))] [false] [.one (.d (.int .i64 x3297.trace))] [] (by kernel_rfl) ⟨by kernel_rfl, by kernel_rfl⟩ (by kernel_rfl) (by kernel_rfl) (by kernel_rfl) (cl53 x3297.trace h) ?_
        rintro hR _ _ ⟨r3310, rfl, rfl, h⟩
        refine ⟨false, (.one (.d (.bool r3310)), []), (fun hz => (by cases hz)), (ret_R hR (by kernel_rfl)), ?_⟩
        refine l_ds 19 (.one (.d (.bool r3310))) ?_
        refine l_split (s := 19) (by kernel_rfl) h (fun h => ?_) (fun h => ?_)
        · refine l_ds 20 (.tup []) ?_
          refine l_ds 21 (.tup []) ?_
          refine l_skip (some 22) (by kernel_rfl) (by kernel_rfl) (by kernel_rfl) ?_
          refine l_ds 23 (.one (.d (.bool true))) ?_
          refine l_ds 15 (.one (.d (.bool true))) ?_
          refine l_nil ?_
          refine q_fall ?_
          exact Lab.m true [(200001, some 4)] h
        · refine l_ds 20 (.one (.ref 4 1 0 1)) ?_
          refine l_ds 21 (.one (.d (.int .i64 x3297.id))) ?_
          refine l_call ok53 en53 (some 22) [.one (.d (.int .i64 x3297.id))] [false] [.one (.d (.int .i64 x3297.id))] [] (by kernel_rfl) ⟨by kernel_rfl, by kernel_rfl⟩ (by kernel_rfl) (by kernel_rfl) (by kernel_rfl) (cl53 x3297.id h) ?_
          rintro hR _ _ ⟨r3311, rfl, rfl, h⟩
          refine ⟨false, (.one (.d (.bool r3311)), []), (fun hz => (by cases hz)), (ret_R hR (by kernel_rfl)), ?_⟩
          refine l_ds 23 (.one (.d (.bool r3311))) ?_
          refine l_ds 15 (.one (.d (.bool r3311))) ?_
          refine l_nil ?_
          refine q_fall ?_
          exact Lab.m r3311 [(200001, some 4)] h
      · rintro v3302 h
        have h : J57_2 K v3246 l_57 x3297 N3279 v3302 := h
        unfold J57_2 at h
        refine AW.cond' (by kernel_rfl) h (fun h => ?_) (fun h => ?_)
        · refine AW.sregL [(0, none)] (by kernel_rfl) ?_
          refine l_ds 2 (.one (.d (.int .i64 2))) ?_
          refine l_nil ?_
          refine AW.ret ?_
          refine q_bret ?_
          refine q_bret ?_
          refine q_ret ?_
          refine q_ret ?_
          refine q_bret ?_
          refine q_ret ?_
          exact q_end [.one (.d (.int .i64 2))] [false] [.one (.d (.int .i64 2))] [] [] (by kernel_rfl) ⟨by kernel_rfl, by kernel_rfl⟩ (by kernel_rfl) (by kernel_rfl) (by kernel_rfl) (by kernel_rfl) (Eq.mp (by kernel_rfl) (hK 2 h)) (.inr rfl)
        · refine AW.seqL (S := Bool) (fun s => (fun (v3307 : Bool) => [(0, .one (.d (.sl (List.map TRef.enc l_57)))), (8, .one (.d (.sl (List.map TRef.enc l_57)))), (9, .one (.d (.int .i64 (l_57.length : Int)))), (10, .one (.d (.int .i64 v3246))), (24, .one (.d (.bool v3307)))]) s) (fun s => (fun (v3307 : Bool) => []) s) (fun s : Bool => J57_3 K N3279 v3246 s) ?_ ?_
          · refine AW.regdL follows_mixed [[], [0], [0, 1], [0, 1, 2], [0, 1, 2], [0, 1, 2, 4], [0, 1, 2, 3, 4, 5], [0, 1, 2, 3, 4, 5, 6], [0, 1, 2], [0, 1, 2, 3, 4, 5, 6, 7, 8], [0, 1, 2, 3, 4, 5, 6, 7, 8, 9], [0, 1, 2, 3, 4, 5, 6, 7, 8, 9, 10], [0, 1, 2, 3, 4, 5, 6, 7, 8, 9, 10, 11]] [(0, none), (1, none), (2, none), (3, none), (4, none), (5, none), (6, none), (7, none), (8, none), (9, none), (10, none), (11, none), (12, none)] (by kernel_rfl) ?_
            refine l_ds 25 (.one (.d (.int .i64 v3246))) ?_
            refine l_ds 26 (.one (.d (.bool (decide (v3246 > 0))))) ?_
            refine l_ds 27 (.one (.d (.bool (decide (v3246 > 0))))) ?_
            refine l_split (s := 27) (by kernel_rfl) h (fun h => ?_) (fun h => ?_)
            · refine l_ds 28 (.one (.d (.sl (List.map TRef.enc l_57)))) ?_
              refine l_ds 29 (.one (.d (.int .i64 v3246))) ?_
              refine l_ds 30 (.one (.d (.int .i64 (w64 (v3246 - 1))))) ?_
              obtain ⟨h188, x3308, h189, h⟩ := h
              refine l_spec (some 31) (.iad 2 (.t 28) (.t 30)) (.one (.d (.ptr [.int .i64 x3308.trace, .int .i64 x3308.id])), []) (by kernel_rfl) (detA_none (d_iad_sl (enc := TRef.enc) (k := .i64) l_57 x3308 (by kernel_rfl) (by kernel_rfl) h188 h189 rfl)) ?_
              refine l_ds 32 (.agg [.d (.int .i64 x3308.trace), .d (.int .i64 x3308.id)]) ?_
              refine l_ds 33 (.agg [.d (.int .i64 x3297.trace), .d (.int .i64 x3297.id)]) ?_
              refine l_call ok77 en77 (some 34) [.agg [.d (.int .i64 x3308.trace), .d (.int .i64 x3308.id)], .agg [.d (.int .i64 x3297.trace), .d (.int .i64 x3297.id)]] [false, false] [.agg (List.map RC.d [.int .i64 x3308.trace, .int .i64 x3308.id]), .agg (List.map RC.d [.int .i64 x3297.trace, .int .i64 x3297.id])] [] (by kernel_rfl) ⟨by kernel_rfl, by kernel_rfl⟩ (by kernel_rfl) (by kernel_rfl) (by kernel_rfl) (cl77 x3308 x3297 h) ?_
              rintro hR _ _ ⟨r3309, rfl, rfl, h⟩
              refine ⟨false, (.one (.d (.int .i64 r3309)), []), (fun hz => (by cases hz)), (ret_R hR (by kernel_rfl)), ?_⟩
              refine l_ds 35 (.one (.d (.bool (decide (r3309 ≥ 0))))) ?_
              refine l_ds 36 (.one (.d (.bool (decide (r3309 ≥ 0))))) ?_
              refine l_ds 24 (.one (.d (.bool (decide (r3309 ≥ 0))))) ?_
              refine l_nil ?_
              refine q_fall ?_
              exact Lab.m (decide (r3309 ≥ 0)) [] h
            · refine l_ds 28 (.tup []) ?_
              refine l_ds 29 (.tup []) ?_
              refine l_ds 30 (.tup []) ?_
              refine l_ds 31 (.tup []) ?_
              refine l_ds 32 (.tup []) ?_
              refine l_ds 33 (.tup []) ?_
              refine l_skip (some 34) (by kernel_rfl) (by kernel_rfl) (by kernel_rfl) ?_
              refine l_ds 35 (.tup []) ?_
              refine l_ds 36 (.one (.d (.bool false))) ?_
              refine l_ds 24 (.one (.d (.bool false))) ?_
              refine l_nil ?_
              refine q_fall ?_
              exact Lab.m false [] h
          · rintro v3307 h
            have h : J57_3 K N3279 v3246 v3307 := h
            unfold J57_3 at h
            refine AW.cond' (by kernel_rfl) h (fun h => ?_) (fun h => ?_)
            · refine AW.sregL [(0, none)] (by kernel_rfl) ?_
              refine l_ds 2 (.one (.d (.int .i64 8))) ?_
              refine l_nil ?_
              refine AW.ret ?_
              refine q_bret ?_
              refine q_bret ?_
              refine q_ret ?_
              refine q_ret ?_
              refine q_bret ?_
              refine q_ret ?_
              exact q_end [.one (.d (.int .i64 8))] [false] [.one (.d (.int .i64 8))] [] [] (by kernel_rfl) ⟨by kernel_rfl, by kernel_rfl⟩ (by kernel_rfl) (by kernel_rfl) (by kernel_rfl) (by kernel_rfl) (Eq.mp (by kernel_rfl) (hK 8 h)) (.inr rfl)
            · refine AW.skip ?_
              refine q_bfall ?_
              refine q_bfall ?_
              refine q_fall ?_
              refine AW.regL [(0, none), (1, none)] (by kernel_rfl) ?_
              refine l_ds 37 (.one (.d (.int .i64 (w64 (v3246 + 1))))) ?_
              refine l_ds 10 (.one (.d (.int .i64 (w64 (v3246 + 1))))) ?_
              refine l_nil ?_
              refine q_fall ?_
              exact Lab.m (w64 (v3246 + 1)) [] h
    · refine AW.exit ?_
      refine q_exit ?_
      refine q_exit ?_
      refine q_bhere ?_
      refine q_fall ?_
      refine AW.sregL [(0, none)] (by kernel_rfl) ?_
      refine l_ds 2 (.one (.d (.int .i64 0))) ?_
      refine l_nil ?_
      refine AW.ret ?_
      exact q_end [.one (.d (.int .i64 0))] [false] [.one (.d (.int .i64 0))] [] [] (by kernel_rfl) ⟨by kernel_rfl, by kernel_rfl⟩ (by kernel_rfl) (by kernel_rfl) (by kernel_rfl) (by kernel_rfl) (Eq.mp (by kernel_rfl) (hK 0 h)) (.inr rfl)
def r55_0 : List AR := [⟨some 2, .mov (.c (.int .i64 0)), [], none⟩]
def r55_1 : List AR := [⟨some 3, .mov (.c (.int .i64 0)), [], none⟩]
def r55_2 : List AR := [⟨some 6, .mov (.t 0), [], none⟩,
  ⟨some 7, .lens (.t 6), [0], none⟩,
  ⟨some 8, .mov (.c (.int .i64 0)), [], none⟩]
def r55_3 : List AR := [⟨some 9, .bin .lss (.t 8) (.t 7), [], none⟩]
def r55_4 : List AR := [⟨some 10, .iad 1 (.t 6) (.t 8), [], none⟩,
  ⟨some 11, .ld false 1 (.t 10), [0], none⟩,
  ⟨some 5, .mov (.t 11), [1, 0, 1], none⟩]
def r55_5 : List AR := [⟨some 12, .mov (.t 5), [], none⟩,
  ⟨some 13, .mov (.t 3), [], none⟩,
  ⟨some 14, .bin .neq (.t 12) (.t 13), [0, 1], none⟩]
def r55_6 : List AR := [⟨some 15, .mov (.t 5), [], none⟩,
  ⟨some 2, .mov (.t 15), [0, 0], none⟩]
def r55_7 : List AR := [⟨some 16, .bin .add (.t 8) (.c (.int .i64 1)), [], none⟩,
  ⟨some 8, .mov (.t 16), [0], none⟩]
def r55_8 : List AR := [⟨some 17, .mov (.t 3), [], none⟩,
  ⟨some 2, .mov (.t 17), [0, 0], none⟩]
def c55 : ACode := .seq (.reg r55_0 false) (.seq (.reg r55_1 false) (.seq (.seq (.reg r55_2 false) (.blk 0 (.loop (.seq (.reg r55_3 false) (.seq (.cond (.t 9) (.skip) (.exit 0)) (.seq (.blk 1 (.seq (.reg r55_4 false) (.seq (.reg r55_5 false) (.cond (.t 14) (.seq (.reg r55_6 false) (.ret)) (.skip))))) (.reg r55_7 false))))))) (.seq (.reg r55_8 false) (.ret))))
theorem body55 : Try.f55.body.map (comp Try.prog 18) = some c55 := by kernel_rfl
theorem res55 : allSome (Try.f55.results.toList.map (compRes Try.prog)) = some [.s 2] := by kernel_rfl
theorem cok55 {S : FSpec} (h : ∀ args K, S args K → args.all argOk = true ∧ args.length ≤ 18 ∧ AW Try.prog 18 (some ownP) c55 (initS args) (retPost [.s 2] args K)) : COK Try.prog 55 S := of_body Try.func55 Try.ntmps55 body55 res55 h

def L55_1 (vals_55 : List Int) (K : Int → Prop) (v3331 : Int) (N3336 : Int → Prop) : Prop :=
  Cond (decide (v3331 < (vals_55.length : Int))) (Idx vals_55 v3331 fun x3340 => Cond (decide (¬ x3340 = 0)) (K x3340) (N3336 (w64 (v3331 + 1)))) (K 0)

/-- cmp.Or[sleuth/api.Errno] -/
def W55 (vals_55 : List Int) (K : Int → Prop) : Prop :=
  LoopW (fun (s : Int) N3336 => L55_1 vals_55 K s N3336) 0

def S55 : FSpec := fun args K => ∃ (vals_55 : List Int), ∃ (Kr : Int → Prop), args = [.one (.d (.sl (List.map (eInt .i64) vals_55)))] ∧ W55 vals_55 Kr ∧ ∀ r, Kr r → K (.one (.d (.int .i64 r))) []

theorem en55 : enters Try.prog 55 = true := by unfold enters; rw [Try.func55]; rfl
theorem cl55 (vals_55 : List Int) {Kr : Int → Prop} (h : W55 vals_55 Kr) : S55 [.one (.d (.sl (List.map (eInt .i64) vals_55)))] (fun rv rows => ∃ r, rv = (.one (.d (.int .i64 r))) ∧ rows = [] ∧ Kr r) := ⟨vals_55, Kr, rfl, h, fun r hr => ⟨r, rfl, rfl, hr⟩⟩

theorem ok55 : COK Try.prog 55 S55 := by
  refine cok55 fun args K0 hS => ?_
  obtain ⟨vals_55, K, rfl, h, hK⟩ := hS
  refine ⟨by kernel_rfl, by simp, ?_⟩
  unfold W55 at h
  refine AW.sregL [(0, none)] (by kernel_rfl) ?_
  refine l_ds 2 (.one (.d (.int .i64 0))) ?_
  refine l_nil ?_
  refine AW.sregL [(0, none)] (by kernel_rfl) ?_
  refine l_ds 3 (.one (.d (.int .i64 0))) ?_
  refine l_nil ?_
  refine AW.seq ?_
  refine AW.sregL [(0, none), (1, none), (2, none)] (by kernel_rfl) ?_
  refine l_ds 6 (.one (.d (.sl (List.map (eInt .i64) vals_55)))) ?_
  refine l_spec (some 7) (.lens (.t 6)) (.one (.d (.int .i64 (vals_55.length : Int))), []) (by kernel_rfl) (detA_none (d_lens_sl (enc := (eInt .i64)) vals_55 (by kernel_rfl))) ?_
  refine l_ds 8 (.one (.d (.int .i64 0))) ?_
  refine l_nil ?_
  refine AW.blk ?_
  refine AW.loopL (S := Int) (fun s => (fun (v3331 : Int) => [(3, .one (.d (.int .i64 0))), (6, .one (.d (.sl (List.map (eInt .i64) vals_55)))), (7, .one (.d (.int .i64 (vals_55.length : Int)))), (8, .one (.d (.int .i64 v3331)))]) s) (fun s => (fun (v3331 : Int) => []) s) (fun (s : Int) N3336 => L55_1 vals_55 K s N3336) (N := fun s => LoopW (fun (s : Int) N3336 => L55_1 vals_55 K s N3336) s) (Lab.m 0 [] h) (fun _ h => h) ?_
  rintro v3331 N3336 h
  have h : L55_1 vals_55 K v3331 N3336 := h
  unfold L55_1 at h
  refine AW.sregL [(0, none)] (by kernel_rfl) ?_
  refine l_ds 9 (.one (.d (.bool (decide (v3331 < (vals_55.length : Int)))))) ?_
  refine l_nil ?_
  refine AW.seq ?_
  refine AW.cond' (by kernel_rfl) h (fun h => ?_) (fun h => ?_)
  · refine AW.skip ?_
    refine q_fall ?_
    refine AW.seq ?_
    refine AW.blk ?_
    refine AW.sregL [(0, none), (1, none), (2, none)] (by kernel_rfl) ?_
    obtain ⟨h47, x3340, h48, h⟩ := h
    refine l_spec (some 10) (.iad 1 (.t 6) (.t 8)) (.one (.d (.ptr [.int .i64 x3340])), []) (by kernel_rfl) (detA_none (d_iad_sl (enc := (eInt .i64)) (k := .i64) vals_55 x3340 (by kernel_rfl) (by kernel_rfl) h47 h48 rfl)) ?_
    refine l_ds 11 (.one (.d (.int .i64 x3340))) ?_
    refine l_ds 5 (.one (.d (.int .i64 x3340))) ?_
    refine l_nil ?_
    refine AW.sregL [(0, none), (1, none), (2, none)] (by kernel_rfl) ?_
    refine l_ds 12 (.one (.d (.int .i64 x3340))) ?_
    refine l_ds 13 (.one (.d (.int .i64 0))) ?_
    refine l_ds 14 (.one (.d (.bool (decide (¬ x3340 = 0))))) ?_
    refine l_nil ?_
    refine AW.cond' (by kernel_rfl) h (fun h => ?_) (fun h => ?_)
    · refine AW.sregL [(0, none), (1, none)] (by kernel_rfl) ?_
      refine l_ds 15 (.one (.d (.int .i64 x3340))) ?_
      refine l_ds 2 (.one (.d (.int .i64 x3340))) ?_
      refine l_nil ?_
      refine AW.ret ?_
      refine q_bret ?_
      refine q_ret ?_
      refine q_ret ?_
      refine q_bret ?_
      refine q_ret ?_
      exact q_end [.one (.d (.int .i64 x3340))] [false] [.one (.d (.int .i64 x3340))] [] [] (by kernel_rfl) ⟨by kernel_rfl, by kernel_rfl⟩ (by kernel_rfl) (by kernel_rfl) (by kernel_rfl) (by kernel_rfl) (Eq.mp (by kernel_rfl) (hK x3340 h)) (.inr rfl)
    · refine AW.skip ?_
      refine q_bfall ?_
      refine q_fall ?_
      refine AW.regL [(0, none), (1, none)] (by kernel_rfl) ?_
      refine l_ds 16 (.one (.d (.int .i64 (w64 (v3331 + 1))))) ?_
      refine l_ds 8 (.one (.d (.int .i64 (w64 (v3331 + 1))))) ?_
      refine l_nil ?_
      refine q_fall ?_
      exact Lab.m (w64 (v3331 + 1)) [] h
  · refine AW.exit ?_
    refine q_exit ?_
    refine q_exit ?_
    refine q_bhere ?_
    refine q_fall ?_
    refine AW.sregL [(0, none), (1, none)] (by kernel_rfl) ?_
    refine l_ds 17 (.one (.d (.int .i64 0))) ?_
    refine l_ds 2 (.one (.d (.int .i64 0))) ?_
    refine l_nil ?_
    refine AW.ret ?_
    exact q_end [.one (.d (.int .i64 0))] [false] [.one (.d (.int .i64 0))] [] [] (by kernel_rfl) ⟨by kernel_rfl, by kernel_rfl⟩ (by kernel_rfl) (by kernel_rfl) (by kernel_rfl) (by kernel_rfl) (Eq.mp (by kernel_rfl) (hK 0 h)) (.inr rfl)
def r32_0 : List AR := [⟨some 1, .box 58 true 14 (.t 0), [], none⟩,
  ⟨some 2, .mov (.c (.int .i64 0)), [], none⟩]
def r32_1 : List AR := [⟨some 4, .fad (.t 1) 0, [], none⟩,
  ⟨some 5, .ld false 1 (.t 4), [0], none⟩,
  ⟨some 6, .call 53 [.t 5], [1], none⟩,
  ⟨some 7, .mov (.t 6), [2, 2], none⟩,
  ⟨some 8, .fad (.t 1) 1, [3], some (7, false)⟩,
  ⟨some 9, .ld false 1 (.t 8), [4, 3], some (7, false)⟩,
  ⟨some 10, .call 53 [.t 9], [5, 3, 3], some (7, false)⟩,
  ⟨some 11, .pick (.t 7) (.c (.bool true)) (.t 10), [3, 6], none⟩,
  ⟨some 12, .mov (.t 11), [7, 6], none⟩,
  ⟨some 13, .fad (.t 1) 2, [8], some (12, false)⟩,
  ⟨some 14, .ld false 1 (.t 13), [9, 8], some (12, false)⟩,
  ⟨some 15, .bin .lss (.t 14) (.c (.int .i64 0)), [10, 8], some (12, false)⟩,
  ⟨some 16, .pick (.t 12) (.c (.bool true)) (.t 15), [8, 11], none⟩,
  ⟨some 17, .mov (.t 16), [12, 8], none⟩,
  ⟨some 18, .fad (.t 1) 2, [13], some (17, false)⟩,
  ⟨some 19, .ld false 1 (.t 18), [14, 13], some (17, false)⟩,
  ⟨some 20, .bin .gtr (.t 19) (.c (.int .i64 1099511627776)), [15, 13], some (17, false)⟩,
  ⟨some 21, .pick (.t 17) (.c (.bool true)) (.t 20), [13, 16], none⟩,
  ⟨some 22, .mov (.t 21), [17, 13], none⟩,
  ⟨some 23, .fad (.t 1) 3, [18], some (22, false)⟩,
  ⟨some 24, .ld false 1 (.t 23), [19, 18], some (22, false)⟩,
  ⟨some 25, .bin .lss (.t 24) (.c (.int .i64 0)), [20, 18], some (22, false)⟩,
  ⟨some 26, .pick (.t 22) (.c (.bool true)) (.t 25), [18, 21], none⟩,
  ⟨some 27, .mov (.t 26), [22, 18], none⟩,
  ⟨some 28, .fad (.t 1) 3, [23], some (27, false)⟩,
  ⟨some 29, .ld false 1 (.t 28), [24, 23], some (27, false)⟩,
  ⟨some 30, .bin .gtr (.t 29) (.c (.int .i64 1048576)), [25, 23], some (27, false)⟩,
  ⟨some 31, .pick (.t 27) (.c (.bool true)) (.t 30), [23, 26], none⟩,
  ⟨some 32, .mov (.t 31), [27, 23], none⟩,
  ⟨some 33, .fad (.t 1) 4, [28], some (32, false)⟩,
  ⟨some 34, .ld false 1 (.t 33), [29, 28], some (32, false)⟩,
  ⟨some 35, .bin .lss (.t 34) (.c (.int .i64 1)), [30, 28], some (32, false)⟩,
  ⟨some 36, .pick (.t 32) (.c (.bool true)) (.t 35), [28, 31], none⟩,
  ⟨some 37, .mov (.t 36), [32, 28], none⟩,
  ⟨some 38, .fad (.t 1) 4, [33], some (37, false)⟩,
  ⟨some 39, .ld false 1 (.t 38), [34, 33], some (37, false)⟩,
  ⟨some 40, .bin .gtr (.t 39) (.c (.int .i64 1048576)), [35, 33], some (37, false)⟩,
  ⟨some 41, .pick (.t 37) (.c (.bool true)) (.t 40), [33, 36], none⟩,
  ⟨some 3, .mov (.t 41), [37, 33], none⟩]
def r32_2 : List AR := [⟨some 2, .mov (.c (.int .i64 2)), [], none⟩]
def r32_3 : List AR := [⟨some 43, .fad (.t 1) 5, [], none⟩,
  ⟨some 44, .ld false 1 (.t 43), [0], none⟩,
  ⟨some 45, .bin .lss (.t 44) (.c (.int .i64 1)), [1], none⟩,
  ⟨some 46, .mov (.t 45), [2], none⟩,
  ⟨some 47, .fad (.t 1) 5, [3], some (46, false)⟩,
  ⟨some 48, .ld false 1 (.t 47), [4, 3], some (46, false)⟩,
  ⟨some 49, .bin .gtr (.t 48) (.c (.int .i64 5)), [5, 3], some (46, false)⟩,
  ⟨some 50, .pick (.t 46) (.c (.bool true)) (.t 49), [3, 6], none⟩,
  ⟨some 42, .mov (.t 50), [7, 3], none⟩]
def r32_4 : List AR := [⟨some 2, .mov (.c (.int .i64 12)), [], none⟩]
def r32_5 : List AR := [⟨some 52, .fad (.t 1) 6, [], none⟩,
  ⟨some 53, .ld false 1 (.t 52), [0], none⟩,
  ⟨some 54, .call 54 [.t 53], [1], none⟩,
  ⟨some 55, .un .not (.t 54), [2], none⟩,
  ⟨some 56, .mov (.t 55), [3, 2], none⟩,
  ⟨some 57, .fad (.t 1) 8, [4], some (56, false)⟩,
  ⟨some 58, .ld false 1 (.t 57), [5, 4], some (56, false)⟩,
  ⟨some 59, .call 54 [.t 58], [6, 4, 4], some (56, false)⟩,
  ⟨some 60, .un .not (.t 59), [7, 4], some (56, false)⟩,
  ⟨some 61, .pick (.t 56) (.c (.bool true)) (.t 60), [4, 8], none⟩,
  ⟨some 62, .mov (.t 61), [9, 7], none⟩,
  ⟨some 63, .fad (.t 1) 7, [10], some (62, false)⟩,
  ⟨some 64, .ld false 1 (.t 63), [11, 10], some (62, false)⟩,
  ⟨some 65, .bin .neq (.t 64) (.c (.str ⟨#[]⟩)), [12, 10], some (62, false)⟩,
  ⟨some 66, .mov (.t 65), [13, 10, 10], some (62, false)⟩,
  ⟨some 67, .fad (.t 1) 7, [14], some (66, true)⟩,
  ⟨some 68, .ld false 1 (.t 67), [15, 14], some (66, true)⟩,
  ⟨some 69, .call 54 [.t 68], [16, 14, 14], some (66, true)⟩,
  ⟨some 70, .un .not (.t 69), [17, 14], some (66, true)⟩,
  ⟨some 71, .pick (.t 66) (.t 70) (.c (.bool false)), [14, 18, 10], some (62, false)⟩,
  ⟨some 72, .pick (.t 62) (.c (.bool true)) (.t 71), [10, 19], none⟩,
  ⟨some 51, .mov (.t 72), [20, 17], none⟩]
def r32_6 : List AR := [⟨some 2, .mov (.c (.int .i64 11)), [], none⟩]
def r32_7 : List AR := [⟨some 74, .fad (.t 1) 9, [], none⟩,
  ⟨some 75, .ld false 1 (.t 74), [0], none⟩,
  ⟨some 76, .fad (.t 1) 10, [], none⟩,
  ⟨some 77, .ld false 1 (.t 76), [2], none⟩,
  ⟨some 78, .mm false [.t 75, .t 77], [1, 3], none⟩,
  ⟨some 79, .bin .lss (.t 78) (.c (.int .i64 (-1099511627776))), [4], none⟩,
  ⟨some 80, .mov (.t 79), [5], none⟩,
  ⟨some 81, .fad (.t 1) 9, [6], some (80, false)⟩,
  ⟨some 82, .ld false 1 (.t 81), [7, 6], some (80, false)⟩,
  ⟨some 83, .fad (.t 1) 10, [6], some (80, false)⟩,
  ⟨some 84, .ld false 1 (.t 83), [9, 6], some (80, false)⟩,
  ⟨some 85, .mm true [.t 82, .t 84], [8, 10, 6], some (80, false)⟩,
  ⟨some 86, .bin .gtr (.t 85) (.c (.int .i64 1099511627776)), [11, 6], some (80, false)⟩,
  ⟨some 87, .pick (.t 80) (.c (.bool true)) (.t 86), [6, 12], none⟩,
  ⟨some 73, .mov (.t 87), [13, 6], none⟩]
def r32_8 : List AR := [⟨some 2, .mov (.c (.int .i64 32)), [], none⟩]
def r32_9 : List AR := [⟨some 89, .fad (.t 1) 10, [], none⟩,
  ⟨some 90, .ld false 1 (.t 89), [0], none⟩,
  ⟨some 91, .fad (.t 1) 9, [], none⟩,
  ⟨some 92, .ld false 1 (.t 91), [2], none⟩,
  ⟨some 93, .bin .lss (.t 90) (.t 92), [1, 3], none⟩,
  ⟨some 88, .mov (.t 93), [4], none⟩]
def r32_10 : List AR := [⟨some 2, .mov (.c (.int .i64 8)), [], none⟩]
def r32_11 : List AR := [⟨some 95, .fad (.t 1) 10, [], none⟩,
  ⟨some 96, .ld false 1 (.t 95), [0], none⟩,
  ⟨some 97, .fad (.t 1) 9, [], none⟩,
  ⟨some 98, .ld false 1 (.t 97), [2], none⟩,
  ⟨some 99, .bin .sub (.t 96) (.t 98), [1, 3], none⟩,
  ⟨some 100, .bin .gtr (.t 99) (.c (.int .i64 1099511627776)), [4], none⟩,
  ⟨some 94, .mov (.t 100), [5], none⟩]
def r32_12 : List AR := [⟨some 2, .mov (.c (.int .i64 32)), [], none⟩]
def r32_13 : List AR := [⟨some 101, .fad (.t 1) 12, [], none⟩,
  ⟨some 102, .ld false 1 (.t 101), [0], none⟩,
  ⟨some 103, .call 56 [.t 102], [1], none⟩,
  ⟨some 104, .fad (.t 1) 13, [], none⟩,
  ⟨some 105, .ld false 1 (.t 104), [3], none⟩,
  ⟨some 106, .call 57 [.t 105], [4, 2], none⟩,
  ⟨some 107, .bsl 33 1 2 [.int .i64 0] [(0, .t 103), (1, .t 106)], [2, 5], none⟩,
  ⟨some 108, .call 55 [.t 107], [6, 5], none⟩,
  ⟨some 2, .mov (.t 108), [7, 7, 0, 1, 2, 3, 4, 5, 6, 7], none⟩]
def c32 : ACode := .seq (.reg r32_0 false) (.seq (.blk 0 (.seq (.reg r32_1 false) (.cond (.t 3) (.seq (.reg r32_2 false) (.ret)) (.seq (.reg r32_3 false) (.cond (.t 42) (.seq (.reg r32_4 false) (.ret)) (.seq (.reg r32_5 false) (.cond (.t 51) (.seq (.reg r32_6 false) (.ret)) (.seq (.reg r32_7 false) (.cond (.t 73) (.seq (.reg r32_8 false) (.ret)) (.seq (.reg r32_9 false) (.cond (.t 88) (.seq (.reg r32_10 false) (.ret)) (.seq (.reg r32_11 false) (.cond (.t 94) (.seq (.reg r32_12 false) (.ret)) (.skip)))))))))))))) (.seq (.reg r32_13 true) (.ret)))
theorem body32 : Try.f32.body.map (comp Try.prog 109) = some c32 := by kernel_rfl
theorem res32 : allSome (Try.f32.results.toList.map (compRes Try.prog)) = some [.s 2] := by kernel_rfl
theorem cok32 {S : FSpec} (h : ∀ args K, S args K → args.all argOk = true ∧ args.length ≤ 109 ∧ AW Try.prog 109 (some ownP) c32 (initS args) (retPost [.s 2] args K)) : COK Try.prog 32 S := of_body Try.func32 Try.ntmps32 body32 res32 h

def J32_4 (K : Int → Prop) (s_32 : TSpan) (v2964 : Bool) : Prop :=
  Cond v2964 (K 32) (Cond (decide (s_32.end_ < s_32.start)) (K 8) (Cond (decide ((w64 (s_32.end_ - s_32.start)) > 1099511627776)) (K 32) (W56 s_32.attrs fun r3342 => W57 s_32.links fun r3343 => W55 [r3342, r3343] fun r3344 => K r3344)))

def J32_3 (K : Int → Prop) (s_32 : TSpan) (v2963 : Bool) : Prop :=
  Cond v2963 (K 11) (Cond (decide ((if s_32.end_ < s_32.start then s_32.end_ else s_32.start) < (-1099511627776))) (J32_4 K s_32 true) (J32_4 K s_32 (decide ((if s_32.end_ > s_32.start then s_32.end_ else s_32.start) > 1099511627776))))

def J32_2 (K : Int → Prop) (s_32 : TSpan) (v2956 : Bool) : Prop :=
  Cond v2956 (K 12) (W54 s_32.service fun r3345 => Cond (!r3345) (J32_3 K s_32 true) (W54 s_32.operation fun r3346 => Cond (!r3346) (J32_3 K s_32 true) (Cond (decide (¬ s_32.version = (⟨#[]⟩ : ByteArray))) (W54 s_32.version fun r3347 => J32_3 K s_32 (!r3347)) (J32_3 K s_32 false))))

def J32_1 (K : Int → Prop) (s_32 : TSpan) (v2955 : Bool) : Prop :=
  Cond v2955 (K 2) (Cond (decide (s_32.kind < 1)) (J32_2 K s_32 true) (J32_2 K s_32 (decide (s_32.kind > 5))))

/-- sleuth/span.Check -/
def W32 (s_32 : TSpan) (K : Int → Prop) : Prop :=
  W53 s_32.trace fun r3348 => Cond r3348 (J32_1 K s_32 true) (W53 s_32.id fun r3349 => Cond r3349 (J32_1 K s_32 true) (Cond (decide (s_32.parent < 0)) (J32_1 K s_32 true) (Cond (decide (s_32.parent > 1099511627776)) (J32_1 K s_32 true) (Cond (decide (s_32.revision < 0)) (J32_1 K s_32 true) (Cond (decide (s_32.revision > 1048576)) (J32_1 K s_32 true) (Cond (decide (s_32.clock < 1)) (J32_1 K s_32 true) (J32_1 K s_32 (decide (s_32.clock > 1048576)))))))))

def S32 : FSpec := fun args K => ∃ (s_32 : TSpan), ∃ (Kr : Int → Prop), args = [.agg (List.map RC.d (TSpan.enc s_32))] ∧ W32 s_32 Kr ∧ ∀ r, Kr r → K (.one (.d (.int .i64 r))) []

theorem en32 : enters Try.prog 32 = true := by unfold enters; rw [Try.func32]; rfl
theorem cl32 (s_32 : TSpan) {Kr : Int → Prop} (h : W32 s_32 Kr) : S32 [.agg (List.map RC.d (TSpan.enc s_32))] (fun rv rows => ∃ r, rv = (.one (.d (.int .i64 r))) ∧ rows = [] ∧ Kr r) := ⟨s_32, Kr, rfl, h, fun r hr => ⟨r, rfl, rfl, hr⟩⟩

theorem ok32 : COK Try.prog 32 S32 := by
  refine cok32 fun args K0 hS => ?_
  obtain ⟨s_32, K, rfl, h, hK⟩ := hS
  refine ⟨by kernel_rfl, by simp, ?_⟩
  unfold W32 at h
  refine AW.sregL [(0, none), (1, none)] (by kernel_rfl) ?_
  refine l_det (some 1) (.one (.ref 1 1 0 0), [(1, 1, .row true 58 14 [[.d (.int .i64 s_32.trace), .d (.int .i64 s_32.id), .d (.int .i64 s_32.parent), .d (.int .i64 s_32.revision), .d (.int .i64 s_32.clock), .d (.int .i64 s_32.kind), .d (.str s_32.service), .d (.str s_32.version), .d (.str s_32.operation), .d (.int .i64 s_32.start), .d (.int .i64 s_32.end_), .d (.bool s_32.error), .d (.sl (List.map TAttr.enc s_32.attrs)), .d (.sl (List.map TRef.enc s_32.links))]])]) (by kernel_rfl) ?_
  refine l_ds 2 (.one (.d (.int .i64 0))) ?_
  refine l_nil ?_
  refine AW.seq ?_
  refine AW.blk ?_
  refine AW.seqL (S := Bool) (fun s => (fun (v2955 : Bool) => [(1, .one (.ref 200001 0 0 0)), (3, .one (.d (.bool v2955)))]) s) (fun s => (fun (v2955 : Bool) => [(200001, .expl true 58 14 [[.d (.int .i64 s_32.trace), .d (.int .i64 s_32.id), .d (.int .i64 s_32.parent), .d (.int .i64 s_32.revision), .d (.int .i64 s_32.clock), .d (.int .i64 s_32.kind), .d (.str s_32.service), .d (.str s_32.version), .d (.str s_32.operation), .d (.int .i64 s_32.start), .d (.int .i64 s_32.end_), .d (.bool s_32.error), .d (.sl (List.map TAttr.enc s_32.attrs)), .d (.sl (List.map TRef.enc s_32.links))]])]) s) (fun s : Bool => J32_1 K s_32 s) ?_ ?_
  · refine AW.regL [(0, none), (1, none), (2, none), (3, none), (4, none), (5, none), (6, none), (7, none), (8, none), (9, none), (10, none), (11, none), (12, none), (13, none), (14, none), (15, none), (16, none), (17, none), (18, none), (19, none), (20, none), (21, none), (22, none), (23, none), (24, none), (25, none), (26, none), (27, none), (28, none), (29, none), (30, none), (31, none), (32, none), (33, none), (34, none), (35, none), (36, none), (37, none), (38, none)] (by kernel_rfl) ?_
    refine l_ds 4 (.one (.ref 1 1 0 0)) ?_
    refine l_ds 5 (.one (.d (.int .i64 s_32.trace))) ?_
    refine l_call ok53 en53 (some 6) [.one (.d (.int .i64 s_32.trace))] [false] [.one (.d (.int .i64 s_32.trace))] [] (by kernel_rfl) ⟨by kernel_rfl, by kernel_rfl⟩ (by kernel_rfl) (by kernel_rfl) (by kernel_rfl) (cl53 s_32.trace h) ?_
    rintro hR _ _ ⟨r3348, rfl, rfl, h⟩
    refine ⟨false, (.one (.d (.bool r3348)), []), (fun hz => (by cases hz)), (ret_R hR (by kernel_rfl)), ?_⟩
    refine l_ds 7 (.one (.d (.bool r3348))) ?_
    refine l_split (s := 7) (by kernel_rfl) h (fun h => ?_) (fun h => ?_)
    · refine l_ds 8 (.tup []) ?_
      refine l_ds 9 (.tup []) ?_
      refine l_skip (some 10) (by kernel_rfl) (by kernel_rfl) (by kernel_rfl) ?_
      refine l_ds 11 (.one (.d (.bool true))) ?_
      refine l_ds 12 (.one (.d (.bool true))) ?_
      refine l_ds 13 (.tup []) ?_
      refine l_ds 14 (.tup []) ?_
      refine l_ds 15 (.tup []) ?_
      refine l_ds 16 (.one (.d (.bool true))) ?_
      refine l_ds 17 (.one (.d (.bool true))) ?_
      refine l_ds 18 (.tup []) ?_
      refine l_ds 19 (.tup []) ?_
      refine l_ds 20 (.tup []) ?_
      refine l_ds 21 (.one (.d (.bool true))) ?_
      refine l_ds 22 (.one (.d (.bool true))) ?_
      refine l_ds 23 (.tup []) ?_
      refine l_ds 24 (.tup []) ?_
      refine l_ds 25 (.tup []) ?_
      refine l_ds 26 (.one (.d (.bool true))) ?_
      refine l_ds 27 (.one (.d (.bool true))) ?_
      refine l_ds 28 (.tup []) ?_
      refine l_ds 29 (.tup []) ?_
      refine l_ds 30 (.tup []) ?_
      refine l_ds 31 (.one (.d (.bool true))) ?_
      refine l_ds 32 (.one (.d (.bool true))) ?_
      refine l_ds 33 (.tup []) ?_
      refine l_ds 34 (.tup []) ?_
      refine l_ds 35 (.tup []) ?_
      refine l_ds 36 (.one (.d (.bool true))) ?_
      refine l_ds 37 (.one (.d (.bool true))) ?_
      refine l_ds 38 (.tup []) ?_
      refine l_ds 39 (.tup []) ?_
      refine l_ds 40 (.tup []) ?_
      refine l_ds 41 (.one (.d (.bool true))) ?_
      refine l_ds 3 (.one (.d (.bool true))) ?_
      refine l_nil ?_
      refine q_fall ?_
      exact Lab.m true [(200001, some 1)] h
    · refine l_ds 8 (.one (.ref 1 1 0 1)) ?_
      refine l_ds 9 (.one (.d (.int .i64 s_32.id))) ?_
      refine l_call ok53 en53 (some 10) [.one (.d (.int .i64 s_32.id))] [false] [.one (.d (.int .i64 s_32.id))] [] (by kernel_rfl) ⟨by kernel_rfl, by kernel_rfl⟩ (by kernel_rfl) (by kernel_rfl) (by kernel_rfl) (cl53 s_32.id h) ?_
      rintro hR _ _ ⟨r3349, rfl, rfl, h⟩
      refine ⟨false, (.one (.d (.bool r3349)), []), (fun hz => (by cases hz)), (ret_R hR (by kernel_rfl)), ?_⟩
      refine l_ds 11 (.one (.d (.bool r3349))) ?_
      refine l_ds 12 (.one (.d (.bool r3349))) ?_
      refine l_split (s := 12) (by kernel_rfl) h (fun h => ?_) (fun h => ?_)
      · refine l_ds 13 (.tup []) ?_
        refine l_ds 14 (.tup []) ?_
        refine l_ds 15 (.tup []) ?_
        refine l_ds 16 (.one (.d (.bool true))) ?_
        refine l_ds 17 (.one (.d (.bool true))) ?_
        refine l_ds 18 (.tup []) ?_
        refine l_ds 19 (.tup []) ?_
        refine l_ds 20 (.tup []) ?_
        refine l_ds 21 (.one (.d (.bool true))) ?_
        refine l_ds 22 (.one (.d (.bool true))) ?_
        refine l_ds 23 (.tup []) ?_
        refine l_ds 24 (.tup []) ?_
        refine l_ds 25 (.tup []) ?_
        refine l_ds 26 (.one (.d (.bool true))) ?_
        refine l_ds 27 (.one (.d (.bool true))) ?_
        refine l_ds 28 (.tup []) ?_
        refine l_ds 29 (.tup []) ?_
        refine l_ds 30 (.tup []) ?_
        refine l_ds 31 (.one (.d (.bool true))) ?_
        refine l_ds 32 (.one (.d (.bool true))) ?_
        refine l_ds 33 (.tup []) ?_
        refine l_ds 34 (.tup []) ?_
        refine l_ds 35 (.tup []) ?_
        refine l_ds 36 (.one (.d (.bool true))) ?_
        refine l_ds 37 (.one (.d (.bool true))) ?_
        refine l_ds 38 (.tup []) ?_
        refine l_ds 39 (.tup []) ?_
        refine l_ds 40 (.tup []) ?_
        refine l_ds 41 (.one (.d (.bool true))) ?_
        refine l_ds 3 (.one (.d (.bool true))) ?_
        refine l_nil ?_
        refine q_fall ?_
        exact Lab.m true [(200001, some 1)] h
      · refine l_ds 13 (.one (.ref 1 1 0 2)) ?_
        refine l_ds 14 (.one (.d (.int .i64 s_32.parent))) ?_
        refine l_ds 15 (.one (.d (.bool (decide (s_32.parent < 0))))) ?_
        refine l_ds 16 (.one (.d (.bool (decide (s_32.parent < 0))))) ?_
        refine l_ds 17 (.one (.d (.bool (decide (s_32.parent < 0))))) ?_
        refine l_split (s := 17) (by kernel_rfl) h (fun h => ?_) (fun h => ?_)
        · refine l_ds 18 (.tup []) ?_
          refine l_ds 19 (.tup []) ?_
          refine l_ds 20 (.tup []) ?_
          refine l_ds 21 (.one (.d (.bool true))) ?_
          refine l_ds 22 (.one (.d (.bool true))) ?_
          refine l_ds 23 (.tup []) ?_
          refine l_ds 24 (.tup []) ?_
          refine l_ds 25 (.tup []) ?_
          refine l_ds 26 (.one (.d (.bool true))) ?_
          refine l_ds 27 (.one (.d (.bool true))) ?_
          refine l_ds 28 (.tup []) ?_
          refine l_ds 29 (.tup []) ?_
          refine l_ds 30 (.tup []) ?_
          refine l_ds 31 (.one (.d (.bool true))) ?_
          refine l_ds 32 (.one (.d (.bool true))) ?_
          refine l_ds 33 (.tup []) ?_
          refine l_ds 34 (.tup []) ?_
          refine l_ds 35 (.tup []) ?_
          refine l_ds 36 (.one (.d (.bool true))) ?_
          refine l_ds 37 (.one (.d (.bool true))) ?_
          refine l_ds 38 (.tup []) ?_
          refine l_ds 39 (.tup []) ?_
          refine l_ds 40 (.tup []) ?_
          refine l_ds 41 (.one (.d (.bool true))) ?_
          refine l_ds 3 (.one (.d (.bool true))) ?_
          refine l_nil ?_
          refine q_fall ?_
          exact Lab.m true [(200001, some 1)] h
        · refine l_ds 18 (.one (.ref 1 1 0 2)) ?_
          refine l_ds 19 (.one (.d (.int .i64 s_32.parent))) ?_
          refine l_ds 20 (.one (.d (.bool (decide (s_32.parent > 1099511627776))))) ?_
          refine l_ds 21 (.one (.d (.bool (decide (s_32.parent > 1099511627776))))) ?_
          refine l_ds 22 (.one (.d (.bool (decide (s_32.parent > 1099511627776))))) ?_
          refine l_split (s := 22) (by kernel_rfl) h (fun h => ?_) (fun h => ?_)
          · refine l_ds 23 (.tup []) ?_
            refine l_ds 24 (.tup []) ?_
            refine l_ds 25 (.tup []) ?_
            refine l_ds 26 (.one (.d (.bool true))) ?_
            refine l_ds 27 (.one (.d (.bool true))) ?_
            refine l_ds 28 (.tup []) ?_
            refine l_ds 29 (.tup []) ?_
            refine l_ds 30 (.tup []) ?_
            refine l_ds 31 (.one (.d (.bool true))) ?_
            refine l_ds 32 (.one (.d (.bool true))) ?_
            refine l_ds 33 (.tup []) ?_
            refine l_ds 34 (.tup []) ?_
            refine l_ds 35 (.tup []) ?_
            refine l_ds 36 (.one (.d (.bool true))) ?_
            refine l_ds 37 (.one (.d (.bool true))) ?_
            refine l_ds 38 (.tup []) ?_
            refine l_ds 39 (.tup []) ?_
            refine l_ds 40 (.tup []) ?_
            refine l_ds 41 (.one (.d (.bool true))) ?_
            refine l_ds 3 (.one (.d (.bool true))) ?_
            refine l_nil ?_
            refine q_fall ?_
            exact Lab.m true [(200001, some 1)] h
          · refine l_ds 23 (.one (.ref 1 1 0 3)) ?_
            refine l_ds 24 (.one (.d (.int .i64 s_32.revision))) ?_
            refine l_ds 25 (.one (.d (.bool (decide (s_32.revision < 0))))) ?_
            refine l_ds 26 (.one (.d (.bool (decide (s_32.revision < 0))))) ?_
            refine l_ds 27 (.one (.d (.bool (decide (s_32.revision < 0))))) ?_
            refine l_split (s := 27) (by kernel_rfl) h (fun h => ?_) (fun h => ?_)
            · refine l_ds 28 (.tup []) ?_
              refine l_ds 29 (.tup []) ?_
              refine l_ds 30 (.tup []) ?_
              refine l_ds 31 (.one (.d (.bool true))) ?_
              refine l_ds 32 (.one (.d (.bool true))) ?_
              refine l_ds 33 (.tup []) ?_
              refine l_ds 34 (.tup []) ?_
              refine l_ds 35 (.tup []) ?_
              refine l_ds 36 (.one (.d (.bool true))) ?_
              refine l_ds 37 (.one (.d (.bool true))) ?_
              refine l_ds 38 (.tup []) ?_
              refine l_ds 39 (.tup []) ?_
              refine l_ds 40 (.tup []) ?_
              refine l_ds 41 (.one (.d (.bool true))) ?_
              refine l_ds 3 (.one (.d (.bool true))) ?_
              refine l_nil ?_
              refine q_fall ?_
              exact Lab.m true [(200001, some 1)] h
            · refine l_ds 28 (.one (.ref 1 1 0 3)) ?_
              refine l_ds 29 (.one (.d (.int .i64 s_32.revision))) ?_
              refine l_ds 30 (.one (.d (.bool (decide (s_32.revision > 1048576))))) ?_
              refine l_ds 31 (.one (.d (.bool (decide (s_32.revision > 1048576))))) ?_
              refine l_ds 32 (.one (.d (.bool (decide (s_32.revision > 1048576))))) ?_
              refine l_split (s := 32) (by kernel_rfl) h (fun h => ?_) (fun h => ?_)
              · refine l_ds 33 (.tup []) ?_
                refine l_ds 34 (.tup []) ?_
                refine l_ds 35 (.tup []) ?_
                refine l_ds 36 (.one (.d (.bool true))) ?_
                refine l_ds 37 (.one (.d (.bool true))) ?_
                refine l_ds 38 (.tup []) ?_
                refine l_ds 39 (.tup []) ?_
                refine l_ds 40 (.tup []) ?_
                refine l_ds 41 (.one (.d (.bool true))) ?_
                refine l_ds 3 (.one (.d (.bool true))) ?_
                refine l_nil ?_
                refine q_fall ?_
                exact Lab.m true [(200001, some 1)] h
              · refine l_ds 33 (.one (.ref 1 1 0 4)) ?_
                refine l_ds 34 (.one (.d (.int .i64 s_32.clock))) ?_
                refine l_ds 35 (.one (.d (.bool (decide (s_32.clock < 1))))) ?_
                refine l_ds 36 (.one (.d (.bool (decide (s_32.clock < 1))))) ?_
                refine l_ds 37 (.one (.d (.bool (decide (s_32.clock < 1))))) ?_
                refine l_split (s := 37) (by kernel_rfl) h (fun h => ?_) (fun h => ?_)
                · refine l_ds 38 (.tup []) ?_
                  refine l_ds 39 (.tup []) ?_
                  refine l_ds 40 (.tup []) ?_
                  refine l_ds 41 (.one (.d (.bool true))) ?_
                  refine l_ds 3 (.one (.d (.bool true))) ?_
                  refine l_nil ?_
                  refine q_fall ?_
                  exact Lab.m true [(200001, some 1)] h
                · refine l_ds 38 (.one (.ref 1 1 0 4)) ?_
                  refine l_ds 39 (.one (.d (.int .i64 s_32.clock))) ?_
                  refine l_ds 40 (.one (.d (.bool (decide (s_32.clock > 1048576))))) ?_
                  refine l_ds 41 (.one (.d (.bool (decide (s_32.clock > 1048576))))) ?_
                  refine l_ds 3 (.one (.d (.bool (decide (s_32.clock > 1048576))))) ?_
                  refine l_nil ?_
                  refine q_fall ?_
                  exact Lab.m (decide (s_32.clock > 1048576)) [(200001, some 1)] h
  · rintro v2955 h
    have h : J32_1 K s_32 v2955 := h
    unfold J32_1 at h
    refine AW.cond' (by kernel_rfl) h (fun h => ?_) (fun h => ?_)
    · refine AW.sregL [(0, none)] (by kernel_rfl) ?_
      refine l_ds 2 (.one (.d (.int .i64 2))) ?_
      refine l_nil ?_
      refine AW.ret ?_
      refine q_bret ?_
      refine q_ret ?_
      exact q_end [.one (.d (.int .i64 2))] [false] [.one (.d (.int .i64 2))] [] [] (by kernel_rfl) ⟨by kernel_rfl, by kernel_rfl⟩ (by kernel_rfl) (by kernel_rfl) (by kernel_rfl) (by kernel_rfl) (Eq.mp (by kernel_rfl) (hK 2 h)) (.inr rfl)
    · refine AW.seqL (S := Bool) (fun s => (fun (v2956 : Bool) => [(1, .one (.ref 200001 0 0 0)), (42, .one (.d (.bool v2956)))]) s) (fun s => (fun (v2956 : Bool) => [(200001, .expl true 58 14 [[.d (.int .i64 s_32.trace), .d (.int .i64 s_32.id), .d (.int .i64 s_32.parent), .d (.int .i64 s_32.revision), .d (.int .i64 s_32.clock), .d (.int .i64 s_32.kind), .d (.str s_32.service), .d (.str s_32.version), .d (.str s_32.operation), .d (.int .i64 s_32.start), .d (.int .i64 s_32.end_), .d (.bool s_32.error), .d (.sl (List.map TAttr.enc s_32.attrs)), .d (.sl (List.map TRef.enc s_32.links))]])]) s) (fun s : Bool => J32_2 K s_32 s) ?_ ?_
      · refine AW.regL [(0, none), (1, none), (2, none), (3, none), (4, none), (5, none), (6, none), (7, none), (8, none)] (by kernel_rfl) ?_
        refine l_ds 43 (.one (.ref 200001 0 0 5)) ?_
        refine l_ds 44 (.one (.d (.int .i64 s_32.kind))) ?_
        refine l_ds 45 (.one (.d (.bool (decide (s_32.kind < 1))))) ?_
        refine l_ds 46 (.one (.d (.bool (decide (s_32.kind < 1))))) ?_
        refine l_split (s := 46) (by kernel_rfl) h (fun h => ?_) (fun h => ?_)
        · refine l_ds 47 (.tup []) ?_
          refine l_ds 48 (.tup []) ?_
          refine l_ds 49 (.tup []) ?_
          refine l_ds 50 (.one (.d (.bool true))) ?_
          refine l_ds 42 (.one (.d (.bool true))) ?_
          refine l_nil ?_
          refine q_fall ?_
          exact Lab.m true [(200001, some 200001)] h
        · refine l_ds 47 (.one (.ref 200001 0 0 5)) ?_
          refine l_ds 48 (.one (.d (.int .i64 s_32.kind))) ?_
          refine l_ds 49 (.one (.d (.bool (decide (s_32.kind > 5))))) ?_
          refine l_ds 50 (.one (.d (.bool (decide (s_32.kind > 5))))) ?_
          refine l_ds 42 (.one (.d (.bool (decide (s_32.kind > 5))))) ?_
          refine l_nil ?_
          refine q_fall ?_
          exact Lab.m (decide (s_32.kind > 5)) [(200001, some 200001)] h
      · rintro v2956 h
        have h : J32_2 K s_32 v2956 := h
        unfold J32_2 at h
        refine AW.cond' (by kernel_rfl) h (fun h => ?_) (fun h => ?_)
        · refine AW.sregL [(0, none)] (by kernel_rfl) ?_
          refine l_ds 2 (.one (.d (.int .i64 12))) ?_
          refine l_nil ?_
          refine AW.ret ?_
          refine q_bret ?_
          refine q_ret ?_
          exact q_end [.one (.d (.int .i64 12))] [false] [.one (.d (.int .i64 12))] [] [] (by kernel_rfl) ⟨by kernel_rfl, by kernel_rfl⟩ (by kernel_rfl) (by kernel_rfl) (by kernel_rfl) (by kernel_rfl) (Eq.mp (by kernel_rfl) (hK 12 h)) (.inr rfl)
        · refine AW.seqL (S := Bool) (fun s => (fun (v2963 : Bool) => [(1, .one (.ref 200001 0 0 0)), (51, .one (.d (.bool v2963)))]) s) (fun s => (fun (v2963 : Bool) => [(200001, .expl true 58 14 [[.d (.int .i64 s_32.trace), .d (.int .i64 s_32.id), .d (.int .i64 s_32.parent), .d (.int .i64 s_32.revision), .d (.int .i64 s_32.clock), .d (.int .i64 s_32.kind), .d (.str s_32.service), .d (.str s_32.version), .d (.str s_32.operation), .d (.int .i64 s_32.start), .d (.int .i64 s_32.end_), .d (.bool s_32.error), .d (.sl (List.map TAttr.enc s_32.attrs)), .d (.sl (List.map TRef.enc s_32.links))]])]) s) (fun s : Bool => J32_3 K s_32 s) ?_ ?_
          · refine AW.regL [(0, none), (1, none), (2, none), (3, none), (4, none), (5, none), (6, none), (7, none), (8, none), (9, none), (10, none), (11, none), (12, none), (13, none), (14, none), (15, none), (16, none), (17, none), (18, none), (19, none), (20, none), (21, none)] (by kernel_rfl) ?_
            refine l_ds 52 (.one (.ref 200001 0 0 6)) ?_
            refine l_ds 53 (.one (.d (.str s_32.service))) ?_
            refine l_call ok54 en54 (some 54) [.one (.d (.str s_32.service))] [false] [.one (.d (.str s_32.service))] [] (by kernel_rfl) ⟨by kernel_rfl, by kernel_rfl⟩ (by kernel_rfl) (by kernel_rfl) (by kernel_rfl) (cl54 s_32.service h) ?_
            rintro hR _ _ ⟨r3345, rfl, rfl, h⟩
            refine ⟨false, (.one (.d (.bool r3345)), []), (fun hz => (by cases hz)), (ret_R hR (by kernel_rfl)), ?_⟩
            refine l_ds 55 (.one (.d (.bool (!r3345)))) ?_
            refine l_ds 56 (.one (.d (.bool (!r3345)))) ?_
            refine l_split (s := 56) (by kernel_rfl) h (fun h => ?_) (fun h => ?_)
            · refine l_ds 57 (.tup []) ?_
              refine l_ds 58 (.tup []) ?_
              refine l_skip (some 59) (by kernel_rfl) (by kernel_rfl) (by kernel_rfl) ?_
              refine l_ds 60 (.tup []) ?_
              refine l_ds 61 (.one (.d (.bool true))) ?_
              refine l_ds 62 (.one (.d (.bool true))) ?_
              refine l_ds 63 (.tup []) ?_
              refine l_ds 64 (.tup []) ?_
              refine l_ds 65 (.tup []) ?_
              refine l_ds 66 (.tup []) ?_
              refine l_ds 67 (.tup []) ?_
              refine l_ds 68 (.tup []) ?_
              refine l_skip (some 69) (by kernel_rfl) (by kernel_rfl) (by kernel_rfl) ?_
              refine l_ds 70 (.tup []) ?_
              refine l_ds 71 (.tup []) ?_
              refine l_ds 72 (.one (.d (.bool true))) ?_
              refine l_ds 51 (.one (.d (.bool true))) ?_
              refine l_nil ?_
              refine q_fall ?_
              exact Lab.m true [(200001, some 200001)] h
            · refine l_ds 57 (.one (.ref 200001 0 0 8)) ?_
              refine l_ds 58 (.one (.d (.str s_32.operation))) ?_
              refine l_call ok54 en54 (some 59) [.one (.d (.str s_32.operation))] [false] [.one (.d (.str s_32.operation))] [] (by kernel_rfl) ⟨by kernel_rfl, by kernel_rfl⟩ (by kernel_rfl) (by kernel_rfl) (by kernel_rfl) (cl54 s_32.operation h) ?_
              rintro hR _ _ ⟨r3346, rfl, rfl, h⟩
              refine ⟨false, (.one (.d (.bool r3346)), []), (fun hz => (by cases hz)), (ret_R hR (by kernel_rfl)), ?_⟩
              refine l_ds 60 (.one (.d (.bool (!r3346)))) ?_
              refine l_ds 61 (.one (.d (.bool (!r3346)))) ?_
              refine l_ds 62 (.one (.d (.bool (!r3346)))) ?_
              refine l_split (s := 62) (by kernel_rfl) h (fun h => ?_) (fun h => ?_)
              · refine l_ds 63 (.tup []) ?_
                refine l_ds 64 (.tup []) ?_
                refine l_ds 65 (.tup []) ?_
                refine l_ds 66 (.tup []) ?_
                refine l_ds 67 (.tup []) ?_
                refine l_ds 68 (.tup []) ?_
                refine l_skip (some 69) (by kernel_rfl) (by kernel_rfl) (by kernel_rfl) ?_
                refine l_ds 70 (.tup []) ?_
                refine l_ds 71 (.tup []) ?_
                refine l_ds 72 (.one (.d (.bool true))) ?_
                refine l_ds 51 (.one (.d (.bool true))) ?_
                refine l_nil ?_
                refine q_fall ?_
                exact Lab.m true [(200001, some 200001)] h
              · refine l_ds 63 (.one (.ref 200001 0 0 7)) ?_
                refine l_ds 64 (.one (.d (.str s_32.version))) ?_
                refine l_ds 65 (.one (.d (.bool (decide (¬ s_32.version = (⟨#[]⟩ : ByteArray)))))) ?_
                refine l_ds 66 (.one (.d (.bool (decide (¬ s_32.version = (⟨#[]⟩ : ByteArray)))))) ?_
                refine l_split (s := 66) (by kernel_rfl) h (fun h => ?_) (fun h => ?_)
                · refine l_ds 67 (.one (.ref 200001 0 0 7)) ?_
                  refine l_ds 68 (.one (.d (.str s_32.version))) ?_
                  refine l_call ok54 en54 (some 69) [.one (.d (.str s_32.version))] [false] [.one (.d (.str s_32.version))] [] (by kernel_rfl) ⟨by kernel_rfl, by kernel_rfl⟩ (by kernel_rfl) (by kernel_rfl) (by kernel_rfl) (cl54 s_32.version h) ?_
                  rintro hR _ _ ⟨r3347, rfl, rfl, h⟩
                  refine ⟨false, (.one (.d (.bool r3347)), []), (fun hz => (by cases hz)), (ret_R hR (by kernel_rfl)), ?_⟩
                  refine l_ds 70 (.one (.d (.bool (!r3347)))) ?_
                  refine l_ds 71 (.one (.d (.bool (!r3347)))) ?_
                  refine l_ds 72 (.one (.d (.bool (!r3347)))) ?_
                  refine l_ds 51 (.one (.d (.bool (!r3347)))) ?_
                  refine l_nil ?_
                  refine q_fall ?_
                  exact Lab.m (!r3347) [(200001, some 200001)] h
                · refine l_ds 67 (.tup []) ?_
                  refine l_ds 68 (.tup []) ?_
                  refine l_skip (some 69) (by kernel_rfl) (by kernel_rfl) (by kernel_rfl) ?_
                  refine l_ds 70 (.tup []) ?_
                  refine l_ds 71 (.one (.d (.bool false))) ?_
                  refine l_ds 72 (.one (.d (.bool false))) ?_
                  refine l_ds 51 (.one (.d (.bool false))) ?_
                  refine l_nil ?_
                  refine q_fall ?_
                  exact Lab.m false [(200001, some 200001)] h
          · rintro v2963 h
            have h : J32_3 K s_32 v2963 := h
            unfold J32_3 at h
            refine AW.cond' (by kernel_rfl) h (fun h => ?_) (fun h => ?_)
            · refine AW.sregL [(0, none)] (by kernel_rfl) ?_
              refine l_ds 2 (.one (.d (.int .i64 11))) ?_
              refine l_nil ?_
              refine AW.ret ?_
              refine q_bret ?_
              refine q_ret ?_
              exact q_end [.one (.d (.int .i64 11))] [false] [.one (.d (.int .i64 11))] [] [] (by kernel_rfl) ⟨by kernel_rfl, by kernel_rfl⟩ (by kernel_rfl) (by kernel_rfl) (by kernel_rfl) (by kernel_rfl) (Eq.mp (by kernel_rfl) (hK 11 h)) (.inr rfl)
            · refine AW.seqL (S := Bool) (fun s => (fun (v2964 : Bool) => [(1, .one (.ref 200001 0 0 0)), (73, .one (.d (.bool v2964)))]) s) (fun s => (fun (v2964 : Bool) => [(200001, .expl true 58 14 [[.d (.int .i64 s_32.trace), .d (.int .i64 s_32.id), .d (.int .i64 s_32.parent), .d (.int .i64 s_32.revision), .d (.int .i64 s_32.clock), .d (.int .i64 s_32.kind), .d (.str s_32.service), .d (.str s_32.version), .d (.str s_32.operation), .d (.int .i64 s_32.start), .d (.int .i64 s_32.end_), .d (.bool s_32.error), .d (.sl (List.map TAttr.enc s_32.attrs)), .d (.sl (List.map TRef.enc s_32.links))]])]) s) (fun s : Bool => J32_4 K s_32 s) ?_ ?_
              · refine AW.regL [(0, none), (1, none), (2, none), (3, none), (4, none), (5, none), (6, none), (7, none), (8, none), (9, none), (10, none), (11, none), (12, none), (13, none), (14, none)] (by kernel_rfl) ?_
                refine l_ds 74 (.one (.ref 200001 0 0 9)) ?_
                refine l_ds 75 (.one (.d (.int .i64 s_32.start))) ?_
                refine l_ds 76 (.one (.ref 200001 0 0 10)) ?_
                refine l_ds 77 (.one (.d (.int .i64 s_32.end_))) ?_
                refine l_ds 78 (.one (.d (.int .i64 (if s_32.end_ < s_32.start then s_32.end_ else s_32.start)))) ?_
                refine l_ds 79 (.one (.d (.bool (decide ((if s_32.end_ < s_32.start then s_32.end_ else s_32.start) < (-1099511627776)))))) ?_
                refine l_ds 80 (.one (.d (.bool (decide ((if s_32.end_ < s_32.start then s_32.end_ else s_32.start) < (-1099511627776)))))) ?_
                refine l_split (s := 80) (by kernel_rfl) h (fun h => ?_) (fun h => ?_)
                · refine l_ds 81 (.tup []) ?_
                  refine l_ds 82 (.tup []) ?_
                  refine l_ds 83 (.tup []) ?_
                  refine l_ds 84 (.tup []) ?_
                  refine l_ds 85 (.tup []) ?_
                  refine l_ds 86 (.tup []) ?_
                  refine l_ds 87 (.one (.d (.bool true))) ?_
                  refine l_ds 73 (.one (.d (.bool true))) ?_
                  refine l_nil ?_
                  refine q_fall ?_
                  exact Lab.m true [(200001, some 200001)] h
                · refine l_ds 81 (.one (.ref 200001 0 0 9)) ?_
                  refine l_ds 82 (.one (.d (.int .i64 s_32.start))) ?_
                  refine l_ds 83 (.one (.ref 200001 0 0 10)) ?_
                  refine l_ds 84 (.one (.d (.int .i64 s_32.end_))) ?_
                  refine l_ds 85 (.one (.d (.int .i64 (if s_32.end_ > s_32.start then s_32.end_ else s_32.start)))) ?_
                  refine l_ds 86 (.one (.d (.bool (decide ((if s_32.end_ > s_32.start then s_32.end_ else s_32.start) > 1099511627776))))) ?_
                  refine l_ds 87 (.one (.d (.bool (decide ((if s_32.end_ > s_32.start then s_32.end_ else s_32.start) > 1099511627776))))) ?_
                  refine l_ds 73 (.one (.d (.bool (decide ((if s_32.end_ > s_32.start then s_32.end_ else s_32.start) > 1099511627776))))) ?_
                  refine l_nil ?_
                  refine q_fall ?_
                  exact Lab.m (decide ((if s_32.end_ > s_32.start then s_32.end_ else s_32.start) > 1099511627776)) [(200001, some 200001)] h
              · rintro v2964 h
                have h : J32_4 K s_32 v2964 := h
                unfold J32_4 at h
                refine AW.cond' (by kernel_rfl) h (fun h => ?_) (fun h => ?_)
                · refine AW.sregL [(0, none)] (by kernel_rfl) ?_
                  refine l_ds 2 (.one (.d (.int .i64 32))) ?_
                  refine l_nil ?_
                  refine AW.ret ?_
                  refine q_bret ?_
                  refine q_ret ?_
                  exact q_end [.one (.d (.int .i64 32))] [false] [.one (.d (.int .i64 32))] [] [] (by kernel_rfl) ⟨by kernel_rfl, by kernel_rfl⟩ (by kernel_rfl) (by kernel_rfl) (by kernel_rfl) (by kernel_rfl) (Eq.mp (by kernel_rfl) (hK 32 h)) (.inr rfl)
                · refine AW.sregL [(0, none), (1, none), (2, none), (3, none), (4, none), (5, none)] (by kernel_rfl) ?_
                  refine l_ds 89 (.one (.ref 200001 0 0 10)) ?_
                  refine l_ds 90 (.one (.d (.int .i64 s_32.end_))) ?_
                  refine l_ds 91 (.one (.ref 200001 0 0 9)) ?_
                  refine l_ds 92 (.one (.d (.int .i64 s_32.start))) ?_
                  refine l_ds 93 (.one (.d (.bool (decide (s_32.end_ < s_32.start))))) ?_
                  refine l_ds 88 (.one (.d (.bool (decide (s_32.end_ < s_32.start))))) ?_
                  refine l_nil ?_
                  refine AW.cond' (by kernel_rfl) h (fun h => ?_) (fun h => ?_)
                  · refine AW.sregL [(0, none)] (by kernel_rfl) ?_
                    refine l_ds 2 (.one (.d (.int .i64 8))) ?_
                    refine l_nil ?_
                    refine AW.ret ?_
                    refine q_bret ?_
                    refine q_ret ?_
                    exact q_end [.one (.d (.int .i64 8))] [false] [.one (.d (.int .i64 8))] [] [] (by kernel_rfl) ⟨by kernel_rfl, by kernel_rfl⟩ (by kernel_rfl) (by kernel_rfl) (by kernel_rfl) (by kernel_rfl) (Eq.mp (by kernel_rfl) (hK 8 h)) (.inr rfl)
                  · refine AW.sregL [(0, none), (1, none), (2, none), (3, none), (4, none), (5, none), (6, none)] (by kernel_rfl) ?_
                    refine l_ds 95 (.one (.ref 200001 0 0 10)) ?_
                    refine l_ds 96 (.one (.d (.int .i64 s_32.end_))) ?_
                    refine l_ds 97 (.one (.ref 200001 0 0 9)) ?_
                    refine l_ds 98 (.one (.d (.int .i64 s_32.start))) ?_
                    refine l_ds 99 (.one (.d (.int .i64 (w64 (s_32.end_ - s_32.start))))) ?_
                    refine l_ds 100 (.one (.d (.bool (decide ((w64 (s_32.end_ - s_32.start)) > 1099511627776))))) ?_
                    refine l_ds 94 (.one (.d (.bool (decide ((w64 (s_32.end_ - s_32.start)) > 1099511627776))))) ?_
                    refine l_nil ?_
                    refine AW.cond' (by kernel_rfl) h (fun h => ?_) (fun h => ?_)
                    · refine AW.sregL [(0, none)] (by kernel_rfl) ?_
                      refine l_ds 2 (.one (.d (.int .i64 32))) ?_
                      refine l_nil ?_
                      refine AW.ret ?_
                      refine q_bret ?_
                      refine q_ret ?_
                      exact q_end [.one (.d (.int .i64 32))] [false] [.one (.d (.int .i64 32))] [] [] (by kernel_rfl) ⟨by kernel_rfl, by kernel_rfl⟩ (by kernel_rfl) (by kernel_rfl) (by kernel_rfl) (by kernel_rfl) (Eq.mp (by kernel_rfl) (hK 32 h)) (.inr rfl)
                    · refine AW.skip ?_
                      refine q_bfall ?_
                      refine q_fall ?_
                      refine AW.sregdL follows_mixed [[], [0], [0, 1], [], [3], [0, 1, 2, 3, 4], [0, 1, 2, 3, 4, 5], [0, 1, 2, 3, 4, 5, 6], [0, 1, 2, 3, 4, 5, 6, 7]] [(0, none), (1, none), (3, none), (4, some [105, 1200001]), (2, some [103]), (5, none), (6, none), (7, none), (8, none)] (by kernel_rfl) ?_
                      refine l_ds 101 (.one (.ref 200001 0 0 12)) ?_
                      refine l_ds 102 (.one (.d (.sl (List.map TAttr.enc s_32.attrs)))) ?_
                      refine l_ds 104 (.one (.ref 200001 0 0 13)) ?_
                      refine l_ds 105 (.one (.d (.sl (List.map TRef.enc s_32.links)))) ?_
                      refine l_call ok56 en56 (some 103) [.one (.d (.sl (List.map TAttr.enc s_32.attrs)))] [false] [.one (.d (.sl (List.map TAttr.enc s_32.attrs)))] [] (by kernel_rfl) ⟨by kernel_rfl, by kernel_rfl⟩ (by kernel_rfl) (by kernel_rfl) (by kernel_rfl) (cl56 s_32.attrs h) ?_
                      rintro hR _ _ ⟨r3342, rfl, rfl, h⟩
                      refine ⟨false, (.one (.d (.int .i64 r3342)), []), (fun hz => (by cases hz)), (ret_R hR (by kernel_rfl)), ?_⟩
                      refine l_call ok57 en57 (some 106) [.one (.d (.sl (List.map TRef.enc s_32.links)))] [false] [.one (.d (.sl (List.map TRef.enc s_32.links)))] [] (by kernel_rfl) ⟨by kernel_rfl, by kernel_rfl⟩ (by kernel_rfl) (by kernel_rfl) (by kernel_rfl) (cl57 s_32.links h) ?_
                      rintro hR _ _ ⟨r3343, rfl, rfl, h⟩
                      refine ⟨false, (.one (.d (.int .i64 r3343)), []), (fun hz => (by cases hz)), (ret_R hR (by kernel_rfl)), ?_⟩
                      refine l_det (some 107) (.one (.view 107 1 0 2), [(107, 1, .row true 33 1 [[.d (.int .i64 r3342)], [.d (.int .i64 r3343)]])]) (by kernel_rfl) ?_
                      refine l_call ok55 en55 (some 108) [.one (.view 107 1 0 2)] [false] [.one (.d (.sl [[.int .i64 r3342], [.int .i64 r3343]]))] [107] (by kernel_rfl) ⟨by kernel_rfl, by kernel_rfl⟩ (by kernel_rfl) (by kernel_rfl) (by kernel_rfl) (cl55 [r3342, r3343] h) ?_
                      rintro hR _ _ ⟨r3344, rfl, rfl, h⟩
                      refine ⟨true, (.one (.d (.int .i64 r3344)), []), (fun _ => (by kernel_rfl)), (by kernel_rfl), ?_⟩
                      refine l_ds 2 (.one (.d (.int .i64 r3344))) ?_
                      refine l_nil ?_
                      refine AW.ret ?_
                      exact q_end [.one (.d (.int .i64 r3344))] [false] [.one (.d (.int .i64 r3344))] [] [] (by kernel_rfl) ⟨by kernel_rfl, by kernel_rfl⟩ (by kernel_rfl) (by kernel_rfl) (by kernel_rfl) (by kernel_rfl) (Eq.mp (by kernel_rfl) (hK r3344 h)) (.inr rfl)
def r30_0 : List AR := [⟨some 2, .mov (.c (.int .i64 0)), [], none⟩]
def r30_1 : List AR := [⟨some 3, .mov (.c (.int .i64 0)), [], none⟩]
def r30_2 : List AR := [⟨some 9, .mov (.t 0), [], none⟩,
  ⟨some 10, .lens (.t 9), [0], none⟩,
  ⟨some 11, .mov (.c (.int .i64 0)), [], none⟩]
def r30_3 : List AR := [⟨some 12, .bin .lss (.t 11) (.t 10), [], none⟩]
def r30_4 : List AR := [⟨some 13, .mov (.t 11), [], none⟩,
  ⟨some 14, .iad 3 (.t 9) (.t 11), [], none⟩,
  ⟨some 15, .ld true 3 (.t 14), [1], none⟩,
  ⟨some 5, .alloc 53 true [.int .i64 0, .int .i64 0, .nils], [], none⟩,
  ⟨some 4, .mov (.t 13), [0, 0, 1, 2, 3], none⟩,
  ⟨none, .st 3 (.t 5) (.t 15), [3, 2, 4, 0, 1, 2, 3, 4], none⟩]
def r30_5 : List AR := [⟨some 17, .fad (.t 5) 0, [], none⟩,
  ⟨some 18, .ld false 1 (.t 17), [0], none⟩,
  ⟨some 19, .bin .lss (.t 18) (.c (.int .i64 1)), [1], none⟩,
  ⟨some 20, .mov (.t 19), [2], none⟩,
  ⟨some 21, .fad (.t 5) 0, [3], some (20, false)⟩,
  ⟨some 22, .ld false 1 (.t 21), [4, 3], some (20, false)⟩,
  ⟨some 23, .bin .gtr (.t 22) (.c (.int .i64 1099511627776)), [5, 3], some (20, false)⟩,
  ⟨some 24, .pick (.t 20) (.c (.bool true)) (.t 23), [3, 6], none⟩,
  ⟨some 25, .mov (.t 24), [7, 3], none⟩,
  ⟨some 26, .fad (.t 5) 1, [8], some (25, false)⟩,
  ⟨some 27, .ld false 1 (.t 26), [9, 8], some (25, false)⟩,
  ⟨some 28, .bin .lss (.t 27) (.c (.int .i64 1)), [10, 8], some (25, false)⟩,
  ⟨some 29, .pick (.t 25) (.c (.bool true)) (.t 28), [8, 11], none⟩,
  ⟨some 30, .mov (.t 29), [12, 8], none⟩,
  ⟨some 31, .fad (.t 5) 1, [13], some (30, false)⟩,
  ⟨some 32, .ld false 1 (.t 31), [14, 13], some (30, false)⟩,
  ⟨some 33, .bin .gtr (.t 32) (.c (.int .i64 1024)), [15, 13], some (30, false)⟩,
  ⟨some 34, .pick (.t 30) (.c (.bool true)) (.t 33), [13, 16], none⟩,
  ⟨some 16, .mov (.t 34), [17, 13], none⟩]
def r30_6 : List AR := [⟨some 2, .mov (.c (.int .i64 2)), [], none⟩]
def r30_7 : List AR := [⟨some 36, .mov (.t 4), [], none⟩,
  ⟨some 37, .bin .gtr (.t 36) (.c (.int .i64 0)), [0], none⟩,
  ⟨some 38, .mov (.t 37), [1], none⟩,
  ⟨some 39, .fad (.t 5) 0, [2], some (38, true)⟩,
  ⟨some 40, .ld false 1 (.t 39), [3, 2], some (38, true)⟩,
  ⟨some 41, .mov (.t 0), [2], some (38, true)⟩,
  ⟨some 42, .mov (.t 4), [2], some (38, true)⟩,
  ⟨some 43, .bin .sub (.t 42) (.c (.int .i64 1)), [6, 2], some (38, true)⟩,
  ⟨some 44, .iad 3 (.t 41) (.t 43), [5, 7, 2], some (38, true)⟩,
  ⟨some 45, .fad (.t 44) 0, [8, 2], some (38, true)⟩,
  ⟨some 46, .ld false 1 (.t 45), [9, 2], some (38, true)⟩,
  ⟨some 47, .bin .leq (.t 40) (.t 46), [4, 10, 2], some (38, true)⟩,
  ⟨some 48, .pick (.t 38) (.t 47) (.c (.bool false)), [2, 11], none⟩,
  ⟨some 35, .mov (.t 48), [12, 2], none⟩]
def r30_8 : List AR := [⟨some 2, .mov (.c (.int .i64 8)), [], none⟩]
def r30_9 : List AR := [⟨some 49, .fad (.t 5) 2, [], none⟩,
  ⟨some 50, .ld false 1 (.t 49), [0], none⟩,
  ⟨some 51, .lens (.t 50), [1], none⟩,
  ⟨some 52, .mov (.c (.int .i64 0)), [], none⟩]
def r30_10 : List AR := [⟨some 53, .bin .lss (.t 52) (.t 51), [], none⟩]
def r30_11 : List AR := [⟨some 54, .mov (.t 52), [], none⟩,
  ⟨some 55, .iad 14 (.t 50) (.t 52), [], none⟩,
  ⟨some 56, .ld true 14 (.t 55), [1], none⟩,
  ⟨some 7, .alloc 58 true [.int .i64 0, .int .i64 0, .int .i64 0, .int .i64 0, .int .i64 0, .int .i64 0, .str ⟨#[]⟩, .str ⟨#[]⟩, .str ⟨#[]⟩, .int .i64 0, .int .i64 0, .bool false, .nils, .nils], [], none⟩,
  ⟨some 6, .mov (.t 54), [0, 0, 1, 2, 3], none⟩,
  ⟨none, .st 14 (.t 7) (.t 56), [3, 2, 4, 0, 1, 2, 3, 4], none⟩]
def r30_12 : List AR := [⟨some 57, .ld true 14 (.t 7), [], none⟩,
  ⟨some 58, .call 32 [.t 57], [0], none⟩,
  ⟨some 8, .mov (.t 58), [1, 1, 0, 1], none⟩]
def r30_13 : List AR := [⟨some 59, .mov (.t 8), [], none⟩,
  ⟨some 60, .bin .neq (.t 59) (.c (.int .i64 0)), [0], none⟩]
def r30_14 : List AR := [⟨some 61, .mov (.t 8), [], none⟩,
  ⟨some 2, .mov (.t 61), [0, 0], none⟩]
def r30_15 : List AR := [⟨some 63, .fad (.t 7) 0, [], none⟩,
  ⟨some 64, .ld false 1 (.t 63), [0], none⟩,
  ⟨some 65, .fad (.t 5) 0, [], none⟩,
  ⟨some 66, .ld false 1 (.t 65), [2], none⟩,
  ⟨some 67, .bin .neq (.t 64) (.t 66), [1, 3], none⟩,
  ⟨some 62, .mov (.t 67), [4], none⟩]
def r30_16 : List AR := [⟨some 2, .mov (.c (.int .i64 17)), [], none⟩]
def r30_17 : List AR := [⟨some 69, .mov (.t 6), [], none⟩,
  ⟨some 70, .bin .gtr (.t 69) (.c (.int .i64 0)), [0], none⟩,
  ⟨some 71, .mov (.t 70), [1], none⟩,
  ⟨some 72, .fad (.t 7) 1, [2], some (71, true)⟩,
  ⟨some 73, .ld false 1 (.t 72), [3, 2], some (71, true)⟩,
  ⟨some 74, .fad (.t 5) 2, [2], some (71, true)⟩,
  ⟨some 75, .ld false 1 (.t 74), [5, 2], some (71, true)⟩,
  ⟨some 76, .mov (.t 6), [2], some (71, true)⟩,
  ⟨some 77, .bin .sub (.t 76) (.c (.int .i64 1)), [7, 2], some (71, true)⟩,
  ⟨some 78, .iad 14 (.t 75) (.t 77), [6, 8, 2], some (71, true)⟩,
  ⟨some 79, .fad (.t 78) 1, [9, 2], some (71, true)⟩,
  ⟨some 80, .ld false 1 (.t 79), [10, 2], some (71, true)⟩,
  ⟨some 81, .bin .leq (.t 73) (.t 80), [4, 11, 2], some (71, true)⟩,
  ⟨some 82, .pick (.t 71) (.t 81) (.c (.bool false)), [2, 12], none⟩,
  ⟨some 68, .mov (.t 82), [13, 2], none⟩]
def r30_18 : List AR := [⟨some 2, .mov (.c (.int .i64 8)), [], none⟩]
def r30_19 : List AR := [⟨some 83, .bin .add (.t 52) (.c (.int .i64 1)), [], none⟩,
  ⟨some 52, .mov (.t 83), [0], none⟩]
def r30_20 : List AR := [⟨some 84, .mov (.t 3), [], none⟩,
  ⟨some 85, .fad (.t 5) 2, [], none⟩,
  ⟨some 86, .ld false 1 (.t 85), [1], none⟩,
  ⟨some 87, .lens (.t 86), [2], none⟩,
  ⟨some 88, .bin .add (.t 84) (.t 87), [0, 3], none⟩,
  ⟨some 3, .mov (.t 88), [4, 0, 1, 2, 3, 4], none⟩]
def r30_21 : List AR := [⟨some 89, .bin .add (.t 11) (.c (.int .i64 1)), [], none⟩,
  ⟨some 11, .mov (.t 89), [0], none⟩]
def r30_22 : List AR := [⟨some 90, .mov (.t 3), [], none⟩,
  ⟨some 91, .bin .gtr (.t 90) (.c (.int .i64 4096)), [0], none⟩]
def r30_23 : List AR := [⟨some 2, .mov (.c (.int .i64 6)), [], none⟩]
def r30_24 : List AR := [⟨some 2, .mov (.c (.int .i64 0)), [], none⟩]
def c30 : ACode := .seq (.reg r30_0 false) (.seq (.reg r30_1 false) (.seq (.seq (.reg r30_2 false) (.blk 0 (.loop (.seq (.reg r30_3 false) (.seq (.cond (.t 12) (.skip) (.exit 0)) (.seq (.blk 1 (.seq (.reg r30_4 false) (.seq (.blk 2 (.seq (.reg r30_5 false) (.cond (.t 16) (.seq (.reg r30_6 false) (.ret)) (.seq (.reg r30_7 true) (.cond (.t 35) (.seq (.reg r30_8 false) (.ret)) (.skip)))))) (.seq (.seq (.reg r30_9 false) (.blk 3 (.loop (.seq (.reg r30_10 false) (.seq (.cond (.t 53) (.skip) (.exit 3)) (.seq (.blk 4 (.seq (.reg r30_11 false) (.seq (.seq (.reg r30_12 false) (.seq (.reg r30_13 false) (.cond (.t 60) (.seq (.reg r30_14 false) (.ret)) (.skip)))) (.blk 5 (.seq (.reg r30_15 false) (.cond (.t 62) (.seq (.reg r30_16 false) (.ret)) (.seq (.reg r30_17 true) (.cond (.t 68) (.seq (.reg r30_18 false) (.ret)) (.skip))))))))) (.reg r30_19 false))))))) (.reg r30_20 false))))) (.reg r30_21 false))))))) (.seq (.seq (.reg r30_22 false) (.cond (.t 91) (.seq (.reg r30_23 false) (.ret)) (.skip))) (.seq (.reg r30_24 false) (.ret)))))
theorem body30 : Try.f30.body.map (comp Try.prog 92) = some c30 := by kernel_rfl
theorem res30 : allSome (Try.f30.results.toList.map (compRes Try.prog)) = some [.s 2] := by kernel_rfl
theorem cok30 {S : FSpec} (h : ∀ args K, S args K → args.all argOk = true ∧ args.length ≤ 92 ∧ AW Try.prog 92 (some ownP) c30 (initS args) (retPost [.s 2] args K)) : COK Try.prog 30 S := of_body Try.func30 Try.ntmps30 body30 res30 h

def J30_5 (K : Int → Prop) (N4736 : Int → Prop) (v4715 : Int) (v4755 : Bool) : Prop :=
  Cond v4755 (K 8) (N4736 (w64 (v4715 + 1)))

def L30_4 (x4639 : TTrace) (K : Int → Prop) (N4517 : (Int × Int) → Prop) (v4275 : Int) (v4276 : Int) (v4715 : Int) (N4736 : Int → Prop) : Prop :=
  Cond (decide (v4715 < (x4639.spans.length : Int))) (Idx x4639.spans v4715 fun x4748 => W32 x4748 fun r4752 => Cond (decide (¬ r4752 = 0)) (K r4752) (Cond (decide (¬ x4748.trace = x4639.id)) (K 17) (Cond (decide (v4715 > 0)) (Idx x4639.spans (w64 (v4715 - 1)) fun x4756 => J30_5 K N4736 v4715 (decide (x4748.id ≤ x4756.id))) (J30_5 K N4736 v4715 false)))) (N4517 ((w64 (v4275 + (x4639.spans.length : Int))), (w64 (v4276 + 1))))

def J30_3 (K : Int → Prop) (x4639 : TTrace) (N4517 : (Int × Int) → Prop) (v4275 : Int) (v4276 : Int) (v4648 : Bool) : Prop :=
  Cond v4648 (K 8) (LoopW (fun (s : Int) N4736 => L30_4 x4639 K N4517 v4275 v4276 s N4736) 0)

def J30_2 (K : Int → Prop) (v4276 : Int) (l_30 : List TTrace) (x4639 : TTrace) (N4517 : (Int × Int) → Prop) (v4275 : Int) (v4645 : Bool) : Prop :=
  Cond v4645 (K 2) (Cond (decide (v4276 > 0)) (Idx l_30 (w64 (v4276 - 1)) fun x4757 => J30_3 K x4639 N4517 v4275 v4276 (decide (x4639.id ≤ x4757.id))) (J30_3 K x4639 N4517 v4275 v4276 false))

def L30_1 (l_30 : List TTrace) (K : Int → Prop) (v4275 : Int) (v4276 : Int) (N4517 : (Int × Int) → Prop) : Prop :=
  Cond (decide (v4276 < (l_30.length : Int))) (Idx l_30 v4276 fun x4639 => Cond (decide (x4639.id < 1)) (J30_2 K v4276 l_30 x4639 N4517 v4275 true) (Cond (decide (x4639.id > 1099511627776)) (J30_2 K v4276 l_30 x4639 N4517 v4275 true) (Cond (decide (x4639.weight < 1)) (J30_2 K v4276 l_30 x4639 N4517 v4275 true) (J30_2 K v4276 l_30 x4639 N4517 v4275 (decide (x4639.weight > 1024)))))) (Cond (decide (v4275 > 4096)) (K 6) (K 0))

/-- sleuth/estimate.Check -/
def W30 (l_30 : List TTrace) (K : Int → Prop) : Prop :=
  LoopW (fun (s : (Int × Int)) N4517 => L30_1 l_30 K s.1 s.2 N4517) (0, 0)

def S30 : FSpec := fun args K => ∃ (l_30 : List TTrace), ∃ (Kr : Int → Prop), args = [.one (.d (.sl (List.map TTrace.enc l_30)))] ∧ W30 l_30 Kr ∧ ∀ r, Kr r → K (.one (.d (.int .i64 r))) []

theorem en30 : enters Try.prog 30 = true := by unfold enters; rw [Try.func30]; rfl
theorem cl30 (l_30 : List TTrace) {Kr : Int → Prop} (h : W30 l_30 Kr) : S30 [.one (.d (.sl (List.map TTrace.enc l_30)))] (fun rv rows => ∃ r, rv = (.one (.d (.int .i64 r))) ∧ rows = [] ∧ Kr r) := ⟨l_30, Kr, rfl, h, fun r hr => ⟨r, rfl, rfl, hr⟩⟩

theorem ok30 : COK Try.prog 30 S30 := by
  refine cok30 fun args K0 hS => ?_
  obtain ⟨l_30, K, rfl, h, hK⟩ := hS
  refine ⟨by kernel_rfl, by simp, ?_⟩
  unfold W30 at h
  refine AW.sregL [(0, none)] (by kernel_rfl) ?_
  refine l_ds 2 (.one (.d (.int .i64 0))) ?_
  refine l_nil ?_
  refine AW.sregL [(0, none)] (by kernel_rfl) ?_
  refine l_ds 3 (.one (.d (.int .i64 0))) ?_
  refine l_nil ?_
  refine AW.seq ?_
  refine AW.sregL [(0, none), (1, none), (2, none)] (by kernel_rfl) ?_
  refine l_ds 9 (.one (.d (.sl (List.map TTrace.enc l_30)))) ?_
  refine l_spec (some 10) (.lens (.t 9)) (.one (.d (.int .i64 (l_30.length : Int))), []) (by kernel_rfl) (detA_none (d_lens_sl (enc := TTrace.enc) l_30 (by kernel_rfl))) ?_
  refine l_ds 11 (.one (.d (.int .i64 0))) ?_
  refine l_nil ?_
  refine AW.blk ?_
  refine AW.loopL (S := (Int × Int)) (fun s => (fun (v4275 : Int) (v4276 : Int) => [(0, .one (.d (.sl (List.map TTrace.enc l_30)))), (3, .one (.d (.int .i64 v4275))), (9, .one (.d (.sl (List.map TTrace.enc l_30)))), (10, .one (.d (.int .i64 (l_30.length : Int)))), (11, .one (.d (.int .i64 v4276)))]) s.1 s.2) (fun s => (fun (v4275 : Int) (v4276 : Int) => []) s.1 s.2) (fun (s : (Int × Int)) N4517 => L30_1 l_30 K s.1 s.2 N4517) (N := fun s => LoopW (fun (s : (Int × Int)) N4517 => L30_1 l_30 K s.1 s.2 N4517) s) (Lab.m (0, 0) [] h) (fun _ h => h) ?_
  rintro ⟨v4275, v4276⟩ N4517 h
  have h : L30_1 l_30 K v4275 v4276 N4517 := h
  unfold L30_1 at h
  refine AW.sregL [(0, none)] (by kernel_rfl) ?_
  refine l_ds 12 (.one (.d (.bool (decide (v4276 < (l_30.length : Int)))))) ?_
  refine l_nil ?_
  refine AW.seq ?_
  refine AW.cond' (by kernel_rfl) h (fun h => ?_) (fun h => ?_)
  · refine AW.skip ?_
    refine q_fall ?_
    refine AW.seq ?_
    refine AW.blk ?_
    refine AW.sregL [(0, none), (1, none), (2, none), (3, none), (4, none), (5, none)] (by kernel_rfl) ?_
    refine l_ds 13 (.one (.d (.int .i64 v4276))) ?_
    obtain ⟨h1715, x4639, h1716, h⟩ := h
    refine l_spec (some 14) (.iad 3 (.t 9) (.t 11)) (.one (.d (.ptr [.int .i64 x4639.id, .int .i64 x4639.weight, .sl (List.map TSpan.enc x4639.spans)])), []) (by kernel_rfl) (detA_none (d_iad_sl (enc := TTrace.enc) (k := .i64) l_30 x4639 (by kernel_rfl) (by kernel_rfl) h1715 h1716 rfl)) ?_
    refine l_ds 15 (.agg [.d (.int .i64 x4639.id), .d (.int .i64 x4639.weight), .d (.sl (List.map TSpan.enc x4639.spans))]) ?_
    refine l_det (some 5) (.one (.ref 5 1 0 0), [(5, 1, .row true 53 3 [[.d (.int .i64 0), .d (.int .i64 0), .nils]])]) (by kernel_rfl) ?_
    refine l_ds 4 (.one (.d (.int .i64 v4276))) ?_
    refine l_det none (.tup [], [(5, 1, .row true 53 3 [[.d (.int .i64 x4639.id), .d (.int .i64 x4639.weight), .d (.sl (List.map TSpan.enc x4639.spans))]])]) (by kernel_rfl) ?_
    refine l_nil ?_
    refine AW.seq ?_
    refine AW.blk ?_
    refine AW.seqL (S := Bool) (fun s => (fun (v4645 : Bool) => [(0, .one (.d (.sl (List.map TTrace.enc l_30)))), (3, .one (.d (.int .i64 v4275))), (4, .one (.d (.int .i64 v4276))), (5, .one (.ref 200001 0 0 0)), (9, .one (.d (.sl (List.map TTrace.enc l_30)))), (10, .one (.d (.int .i64 (l_30.length : Int)))), (11, .one (.d (.int .i64 v4276))), (16, .one (.d (.bool v4645)))]) s) (fun s => (fun (v4645 : Bool) => [(200001, .expl true 53 3 [[.d (.int .i64 x4639.id), .d (.int .i64 x4639.weight), .d (.sl (List.map TSpan.enc x4639.spans))]])]) s) (fun s : Bool => J30_2 K v4276 l_30 x4639 N4517 v4275 s) ?_ ?_
    · refine AW.regL [(0, none), (1, none), (2, none), (3, none), (4, none), (5, none), (6, none), (7, none), (8, none), (9, none), (10, none), (11, none), (12, none), (13, none), (14, none), (15, none), (16, none), (17, none), (18, none)] (by kernel_rfl) ?_
      refine l_ds 17 (.one (.ref 5 1 0 0)) ?_
      refine l_ds 18 (.one (.d (.int .i64 x4639.id))) ?_
      refine l_ds 19 (.one (.d (.bool (decide (x4639.id < 1))))) ?_
      refine l_ds 20 (.one (.d (.bool (decide (x4639.id < 1))))) ?_
      refine l_split (s := 20) (by kernel_rfl) h (fun h => ?_) (fun h => ?_)
      · refine l_ds 21 (.tup []) ?_
        refine l_ds 22 (.tup []) ?_
        refine l_ds 23 (.tup []) ?_
        refine l_ds 24 (.one (.d (.bool true))) ?_
        refine l_ds 25 (.one (.d (.bool true))) ?_
        refine l_ds 26 (.tup []) ?_
        refine l_ds 27 (.tup []) ?_
        refine l_ds 28 (.tup []) ?_
        refine l_ds 29 (.one (.d (.bool true))) ?_
        refine l_ds 30 (.one (.d (.bool true))) ?_
        refine l_ds 31 (.tup []) ?_
        refine l_ds 32 (.tup []) ?_
        refine l_ds 33 (.tup []) ?_
        refine l_ds 34 (.one (.d (.bool true))) ?_
        refine l_ds 16 (.one (.d (.bool true))) ?_
        refine l_nil ?_
        refine q_fall ?_
        exact Lab.m true [(200001, some 5)] h
      · refine l_ds 21 (.one (.ref 5 1 0 0)) ?_
        refine l_ds 22 (.one (.d (.int .i64 x4639.id))) ?_
        refine l_ds 23 (.one (.d (.bool (decide (x4639.id > 1099511627776))))) ?_
        refine l_ds 24 (.one (.d (.bool (decide (x4639.id > 1099511627776))))) ?_
        refine l_ds 25 (.one (.d (.bool (decide (x4639.id > 1099511627776))))) ?_
        refine l_split (s := 25) (by kernel_rfl) h (fun h => ?_) (fun h => ?_)
        · refine l_ds 26 (.tup []) ?_
          refine l_ds 27 (.tup []) ?_
          refine l_ds 28 (.tup []) ?_
          refine l_ds 29 (.one (.d (.bool true))) ?_
          refine l_ds 30 (.one (.d (.bool true))) ?_
          refine l_ds 31 (.tup []) ?_
          refine l_ds 32 (.tup []) ?_
          refine l_ds 33 (.tup []) ?_
          refine l_ds 34 (.one (.d (.bool true))) ?_
          refine l_ds 16 (.one (.d (.bool true))) ?_
          refine l_nil ?_
          refine q_fall ?_
          exact Lab.m true [(200001, some 5)] h
        · refine l_ds 26 (.one (.ref 5 1 0 1)) ?_
          refine l_ds 27 (.one (.d (.int .i64 x4639.weight))) ?_
          refine l_ds 28 (.one (.d (.bool (decide (x4639.weight < 1))))) ?_
          refine l_ds 29 (.one (.d (.bool (decide (x4639.weight < 1))))) ?_
          refine l_ds 30 (.one (.d (.bool (decide (x4639.weight < 1))))) ?_
          refine l_split (s := 30) (by kernel_rfl) h (fun h => ?_) (fun h => ?_)
          · refine l_ds 31 (.tup []) ?_
            refine l_ds 32 (.tup []) ?_
            refine l_ds 33 (.tup []) ?_
            refine l_ds 34 (.one (.d (.bool true))) ?_
            refine l_ds 16 (.one (.d (.bool true))) ?_
            refine l_nil ?_
            refine q_fall ?_
            exact Lab.m true [(200001, some 5)] h
          · refine l_ds 31 (.one (.ref 5 1 0 1)) ?_
            refine l_ds 32 (.one (.d (.int .i64 x4639.weight))) ?_
            refine l_ds 33 (.one (.d (.bool (decide (x4639.weight > 1024))))) ?_
            refine l_ds 34 (.one (.d (.bool (decide (x4639.weight > 1024))))) ?_
            refine l_ds 16 (.one (.d (.bool (decide (x4639.weight > 1024))))) ?_
            refine l_nil ?_
            refine q_fall ?_
            exact Lab.m (decide (x4639.weight > 1024)) [(200001, some 5)] h
    · rintro v4645 h
      have h : J30_2 K v4276 l_30 x4639 N4517 v4275 v4645 := h
      unfold J30_2 at h
      refine AW.cond' (by kernel_rfl) h (fun h => ?_) (fun h => ?_)
      · refine AW.sregL [(0, none)] (by kernel_rfl) ?_
        refine l_ds 2 (.one (.d (.int .i64 2))) ?_
        refine l_nil ?_
        refine AW.ret ?_
        refine q_bret ?_
        refine q_ret ?_
        refine q_bret ?_
        refine q_ret ?_
        refine q_ret ?_
        refine q_bret ?_
        refine q_ret ?_
        exact q_end [.one (.d (.int .i64 2))] [false] [.one (.d (.int .i64 2))] [] [] (by kernel_rfl) ⟨by kernel_rfl, by kernel_rfl⟩ (by kernel_rfl) (by kernel_rfl) (by kernel_rfl) (by kernel_rfl) (Eq.mp (by kernel_rfl) (hK 2 h)) (.inr rfl)
      · refine AW.seqL (S := Bool) (fun s => (fun (v4648 : Bool) => [(0, .one (.d (.sl (List.map TTrace.enc l_30)))), (3, .one (.d (.int .i64 v4275))), (5, .one (.ref 200001 0 0 0)), (9, .one (.d (.sl (List.map TTrace.enc l_30)))), (10, .one (.d (.int .i64 (l_30.length : Int)))), (11, .one (.d (.int .i64 v4276))), (35, .one (.d (.bool v4648)))]) s) (fun s => (fun (v4648 : Bool) => [(200001, .expl true 53 3 [[.d (.int .i64 x4639.id), .d (.int .i64 x4639.weight), .d (.sl (List.map TSpan.enc x4639.spans))]])]) s) (fun s : Bool => J30_3 K x4639 N4517 v4275 v4276 s) ?_ ?_
        · refine AW.regdL follows_mixed [[], [0], [0, 1], [0, 1, 2], [0, 1, 2, 3], [0, 1, 2], [0, 1, 2], [0, 1, 2, 6], [0, 1, 2, 5, 6, 7], [0, 1, 2, 5, 6, 7, 8], [0, 1, 2, 5, 6, 7, 8, 9], [0, 1, 2, 3, 4, 5, 6, 7, 8, 9, 10], [0, 1, 2, 3, 4, 5, 6, 7, 8, 9, 10, 11], [0, 1, 2, 3, 4, 5, 6, 7, 8, 9, 10, 11, 12]] [(0, none), (1, none), (2, none), (3, none), (4, none), (5, none), (6, none), (7, none), (8, none), (9, none), (10, none), (11, none), (12, none), (13, none)] (by kernel_rfl) ?_
          refine l_ds 36 (.one (.d (.int .i64 v4276))) ?_
          refine l_ds 37 (.one (.d (.bool (decide (v4276 > 0))))) ?_
          refine l_ds 38 (.one (.d (.bool (decide (v4276 > 0))))) ?_
          refine l_split (s := 38) (by kernel_rfl) h (fun h => ?_) (fun h => ?_)
          · refine l_ds 39 (.one (.ref 200001 0 0 0)) ?_
            refine l_ds 40 (.one (.d (.int .i64 x4639.id))) ?_
            refine l_ds 41 (.one (.d (.sl (List.map TTrace.enc l_30)))) ?_
            refine l_ds 42 (.one (.d (.int .i64 v4276))) ?_
            refine l_ds 43 (.one (.d (.int .i64 (w64 (v4276 - 1))))) ?_
            obtain ⟨h1871, x4757, h1872, h⟩ := h
            refine l_spec (some 44) (.iad 3 (.t 41) (.t 43)) (.one (.d (.ptr [.int .i64 x4757.id, .int .i64 x4757.weight, .sl (List.map TSpan.enc x4757.spans)])), []) (by kernel_rfl) (detA_none (d_iad_sl (enc := TTrace.enc) (k := .i64) l_30 x4757 (by kernel_rfl) (by kernel_rfl) h1871 h1872 rfl)) ?_
            refine l_ds 45 (.one (.d (.ptr [.int .i64 x4757.id, .int .i64 x4757.weight, .sl (List.map TSpan.enc x4757.spans)]))) ?_
            refine l_ds 46 (.one (.d (.int .i64 x4757.id))) ?_
            refine l_ds 47 (.one (.d (.bool (decide (x4639.id ≤ x4757.id))))) ?_
            refine l_ds 48 (.one (.d (.bool (decide (x4639.id ≤ x4757.id))))) ?_
            refine l_ds 35 (.one (.d (.bool (decide (x4639.id ≤ x4757.id))))) ?_
            refine l_nil ?_
            refine q_fall ?_
            exact Lab.m (decide (x4639.id ≤ x4757.id)) [(200001, some 200001)] h
          · refine l_ds 39 (.tup []) ?_
            refine l_ds 40 (.tup []) ?_
            refine l_ds 41 (.tup []) ?_
            refine l_ds 42 (.tup []) ?_
            refine l_ds 43 (.tup []) ?_
            refine l_ds 44 (.tup []) ?_
            refine l_ds 45 (.tup []) ?_
            refine l_ds 46 (.tup []) ?_
            refine l_ds 47 (.tup []) ?_
            refine l_ds 48 (.one (.d (.bool false))) ?_
            refine l_ds 35 (.one (.d (.bool false))) ?_
            refine l_nil ?_
            refine q_fall ?_
            exact Lab.m false [(200001, some 200001)] h
        · rintro v4648 h
          have h : J30_3 K x4639 N4517 v4275 v4276 v4648 := h
          unfold J30_3 at h
          refine AW.cond' (by kernel_rfl) h (fun h => ?_) (fun h => ?_)
          · refine AW.sregL [(0, none)] (by kernel_rfl) ?_
            refine l_ds 2 (.one (.d (.int .i64 8))) ?_
            refine l_nil ?_
            refine AW.ret ?_
            refine q_bret ?_
            refine q_ret ?_
            refine q_bret ?_
            refine q_ret ?_
            refine q_ret ?_
            refine q_bret ?_
            refine q_ret ?_
            exact q_end [.one (.d (.int .i64 8))] [false] [.one (.d (.int .i64 8))] [] [] (by kernel_rfl) ⟨by kernel_rfl, by kernel_rfl⟩ (by kernel_rfl) (by kernel_rfl) (by kernel_rfl) (by kernel_rfl) (Eq.mp (by kernel_rfl) (hK 8 h)) (.inr rfl)
          · refine AW.skip ?_
            refine q_bfall ?_
            refine q_fall ?_
            refine AW.seq ?_
            refine AW.sregL [(0, none), (1, none), (2, none), (3, none)] (by kernel_rfl) ?_
            refine l_ds 49 (.one (.ref 200001 0 0 2)) ?_
            refine l_ds 50 (.one (.d (.sl (List.map TSpan.enc x4639.spans)))) ?_
            refine l_spec (some 51) (.lens (.t 50)) (.one (.d (.int .i64 (x4639.spans.length : Int))), []) (by kernel_rfl) (detA_none (d_lens_sl (enc := TSpan.enc) x4639.spans (by kernel_rfl))) ?_
            refine l_ds 52 (.one (.d (.int .i64 0))) ?_
            refine l_nil ?_
            refine AW.blk ?_
            refine AW.loopL (S := Int) (fun s => (fun (v4715 : Int) => [(0, .one (.d (.sl (List.map TTrace.enc l_30)))), (3, .one (.d (.int .i64 v4275))), (5, .one (.ref 200001 0 0 0)), (9, .one (.d (.sl (List.map TTrace.enc l_30)))), (10, .one (.d (.int .i64 (l_30.length : Int)))), (11, .one (.d (.int .i64 v4276))), (50, .one (.d (.sl (List.map TSpan.enc x4639.spans)))), (51, .one (.d (.int .i64 (x4639.spans.length : Int)))), (52, .one (.d (.int .i64 v4715)))]) s) (fun s => (fun (v4715 : Int) => [(200001, .expl true 53 3 [[.d (.int .i64 x4639.id), .d (.int .i64 x4639.weight), .d (.sl (List.map TSpan.enc x4639.spans))]])]) s) (fun (s : Int) N4736 => L30_4 x4639 K N4517 v4275 v4276 s N4736) (N := fun s => LoopW (fun (s : Int) N4736 => L30_4 x4639 K N4517 v4275 v4276 s N4736) s) (Lab.m 0 [(200001, some 200001)] h) (fun _ h => h) ?_
            rintro v4715 N4736 h
            have h : L30_4 x4639 K N4517 v4275 v4276 v4715 N4736 := h
            unfold L30_4 at h
            refine AW.sregL [(0, none)] (by kernel_rfl) ?_
            refine l_ds 53 (.one (.d (.bool (decide (v4715 < (x4639.spans.length : Int)))))) ?_
            refine l_nil ?_
            refine AW.seq ?_
            refine AW.cond' (by kernel_rfl) h (fun h => ?_) (fun h => ?_)
            · refine AW.skip ?_
              refine q_fall ?_
              refine AW.seq ?_
              refine AW.blk ?_
              refine AW.sregL [(0, none), (1, none), (2, none), (3, none), (4, none), (5, none)] (by kernel_rfl) ?_
              refine l_ds 54 (.one (.d (.int .i64 v4715))) ?_
              obtain ⟨h1859, x4748, h1860, h⟩ := h
              refine l_spec (some 55) (.iad 14 (.t 50) (.t 52)) (.one (.d (.ptr [.int .i64 x4748.trace, .int .i64 x4748.id, .int .i64 x4748.parent, .int .i64 x4748.revision, .int .i64 x4748.clock, .int .i64 x4748.kind, .str x4748.service, .str x4748.version, .str x4748.operation, .int .i64 x4748.start, .int .i64 x4748.end_, .bool x4748.error, .sl (List.map TAttr.enc x4748.attrs), .sl (List.map TRef.enc x4748.links)])), []) (by kernel_rfl) (detA_none (d_iad_sl (enc := TSpan.enc) (k := .i64) x4639.spans x4748 (by kernel_rfl) (by kernel_rfl) h1859 h1860 rfl)) ?_
              refine l_ds 56 (.agg [.d (.int .i64 x4748.trace), .d (.int .i64 x4748.id), .d (.int .i64 x4748.parent), .d (.int .i64 x4748.revision), .d (.int .i64 x4748.clock), .d (.int .i64 x4748.kind), .d (.str x4748.service), .d (.str x4748.version), .d (.str x4748.operation), .d (.int .i64 x4748.start), .d (.int .i64 x4748.end_), .d (.bool x4748.error), .d (.sl (List.map TAttr.enc x4748.attrs)), .d (.sl (List.map TRef.enc x4748.links))]) ?_
              refine l_det (some 7) (.one (.ref 7 1 0 0), [(7, 1, .row true 58 14 [[.d (.int .i64 0), .d (.int .i64 0), .d (.int .i64 0), .d (.int .i64 0), .d (.int .i64 0), .d (.int .i64 0), .d (.str (⟨#[]⟩ : ByteArray)), .d (.str (⟨#[]⟩ : ByteArray)), .d (.str (⟨#[]⟩ : ByteArray)), .d (.int .i64 0), .d (.int .i64 0), .d (.bool false), .nils, .nils]])]) (by kernel_rfl) ?_
              refine l_ds 6 (.one (.d (.int .i64 v4715))) ?_
              refine l_det none (.tup [], [(7, 1, .row true 58 14 [[.d (.int .i64 x4748.trace), .d (.int .i64 x4748.id), .d (.int .i64 x4748.parent), .d (.int .i64 x4748.revision), .d (.int .i64 x4748.clock), .d (.int .i64 x4748.kind), .d (.str x4748.service), .d (.str x4748.version), .d (.str x4748.operation), .d (.int .i64 x4748.start), .d (.int .i64 x4748.end_), .d (.bool x4748.error), .d (.sl (List.map TAttr.enc x4748.attrs)), .d (.sl (List.map TRef.enc x4748.links))]])]) (by kernel_rfl) ?_
              refine l_nil ?_
              refine AW.seq ?_
              refine AW.sregL [(0, none), (1, none), (2, none)] (by kernel_rfl) ?_
              refine l_ds 57 (.agg [.d (.int .i64 x4748.trace), .d (.int .i64 x4748.id), .d (.int .i64 x4748.parent), .d (.int .i64 x4748.revision), .d (.int .i64 x4748.clock), .d (.int .i64 x4748.kind), .d (.str x4748.service), .d (.str x4748.version), .d (.str x4748.operation), .d (.int .i64 x4748.start), .d (.int .i64 x4748.end_), .d (.bool x4748.error), .d (.sl (List.map TAttr.enc x4748.attrs)), .d (.sl (List.map TRef.enc x4748.links))]) ?_
              refine l_call ok32 en32 (some 58) [.agg [.d (.int .i64 x4748.trace), .d (.int .i64 x4748.id), .d (.int .i64 x4748.parent), .d (.int .i64 x4748.revision), .d (.int .i64 x4748.clock), .d (.int .i64 x4748.kind), .d (.str x4748.service), .d (.str x4748.version), .d (.str x4748.operation), .d (.int .i64 x4748.start), .d (.int .i64 x4748.end_), .d (.bool x4748.error), .d (.sl (List.map TAttr.enc x4748.attrs)), .d (.sl (List.map TRef.enc x4748.links))]] [false] [.agg (List.map RC.d [.int .i64 x4748.trace, .int .i64 x4748.id, .int .i64 x4748.parent, .int .i64 x4748.revision, .int .i64 x4748.clock, .int .i64 x4748.kind, .str x4748.service, .str x4748.version, .str x4748.operation, .int .i64 x4748.start, .int .i64 x4748.end_, .bool x4748.error, .sl (List.map TAttr.enc x4748.attrs), .sl (List.map TRef.enc x4748.links)])] [] (by kernel_rfl) ⟨by kernel_rfl, by kernel_rfl⟩ (by kernel_rfl) (by kernel_rfl) (by kernel_rfl) (cl32 x4748 h) ?_
              rintro hR _ _ ⟨r4752, rfl, rfl, h⟩
              refine ⟨false, (.one (.d (.int .i64 r4752)), []), (fun hz => (by cases hz)), (ret_R hR (by kernel_rfl)), ?_⟩
              refine l_ds 8 (.one (.d (.int .i64 r4752))) ?_
              refine l_nil ?_
              refine AW.sregL [(0, none), (1, none)] (by kernel_rfl) ?_
              refine l_ds 59 (.one (.d (.int .i64 r4752))) ?_
              refine l_ds 60 (.one (.d (.bool (decide (¬ r4752 = 0))))) ?_
              refine l_nil ?_
              refine AW.cond' (by kernel_rfl) h (fun h => ?_) (fun h => ?_)
              · refine AW.sregL [(0, none), (1, none)] (by kernel_rfl) ?_
                refine l_ds 61 (.one (.d (.int .i64 r4752))) ?_
                refine l_ds 2 (.one (.d (.int .i64 r4752))) ?_
                refine l_nil ?_
                refine AW.ret ?_
                refine q_ret ?_
                refine q_bret ?_
                refine q_ret ?_
                refine q_ret ?_
                refine q_bret ?_
                refine q_ret ?_
                refine q_bret ?_
                refine q_ret ?_
                refine q_ret ?_
                refine q_bret ?_
                refine q_ret ?_
                exact q_end [.one (.d (.int .i64 r4752))] [false] [.one (.d (.int .i64 r4752))] [] [] (by kernel_rfl) ⟨by kernel_rfl, by kernel_rfl⟩ (by kernel_rfl) (by kernel_rfl) (by kernel_rfl) (by kernel_rfl) (Eq.mp (by kernel_rfl) (hK r4752 h)) (.inr rfl)
              · refine AW.skip ?_
                refine q_fall ?_
                refine AW.blk ?_
                refine AW.sregL [(0, none), (1, none), (2, none), (3, none), (4, none), (5, none)] (by kernel_rfl) ?_
                refine l_ds 63 (.one (.ref 7 1 0 0)) ?_
                refine l_ds 64 (.one (.d (.int .i64 x4748.trace))) ?_
                refine l_ds 65 (.one (.ref 200001 0 0 0)) ?_
                refine l_ds 66 (.one (.d (.int .i64 x4639.id))) ?_
                refine l_ds 67 (.one (.d (.bool (decide (¬ x4748.trace = x4639.id))))) ?_
                refine l_ds 62 (.one (.d (.bool (decide (¬ x4748.trace = x4639.id))))) ?_
                refine l_nil ?_
                refine AW.cond' (by kernel_rfl) h (fun h => ?_) (fun h => ?_)
                · refine AW.sregL [(0, none)] (by kernel_rfl) ?_
                  refine l_ds 2 (.one (.d (.int .i64 17))) ?_
                  refine l_nil ?_
                  refine AW.ret ?_
                  refine q_bret ?_
                  refine q_bret ?_
                  refine q_ret ?_
                  refine q_ret ?_
                  refine q_bret ?_
                  refine q_ret ?_
                  refine q_bret ?_
                  refine q_ret ?_
                  refine q_ret ?_
                  refine q_bret ?_
                  refine q_ret ?_
                  exact q_end [.one (.d (.int .i64 17))] [false] [.one (.d (.int .i64 17))] [] [] (by kernel_rfl) ⟨by kernel_rfl, by kernel_rfl⟩ (by kernel_rfl) (by kernel_rfl) (by kernel_rfl) (by kernel_rfl) (Eq.mp (by kernel_rfl) (hK 17 h)) (.inr rfl)
                · refine AW.seqL (S := Bool) (fun s => (fun (v4755 : Bool) => [(0, .one (.d (.sl (List.map TTrace.enc l_30)))), (3, .one (.d (.int .i64 v4275))), (5, .one (.ref 200001 0 0 0)), (9, .one (.d (.sl (List.map TTrace.enc l_30)))), (10, .one (.d (.int .i64 (l_30.length : Int)))), (11, .one (.d (.int .i64 v4276))), (50, .one (.d (.sl (List.map TSpan.enc x4639.spans)))), (51, .one (.d (.int .i64 (x4639.spans.length : Int)))), (52, .one (.d (.int .i64 v4715))), (68, .one (.d (.bool v4755)))]) s) (fun s => (fun (v4755 : Bool) => [(200001, .expl true 53 3 [[.d (.int .i64 x4639.id), .d (.int .i64 x4639.weight), .d (.sl (List.map TSpan.enc x4639.spans))]])]) s) (fun s : Bool => J30_5 K N4736 v4715 s) ?_ ?_
                  · refine AW.regdL follows_mixed [[], [0], [0, 1], [0, 1, 2], [0, 1, 2, 3], [0, 1, 2], [0, 1, 2, 5], [0, 1, 2], [0, 1, 2, 7], [0, 1, 2, 5, 6, 7, 8], [0, 1, 2, 5, 6, 7, 8, 9], [0, 1, 2, 5, 6, 7, 8, 9, 10], [0, 1, 2, 3, 4, 5, 6, 7, 8, 9, 10, 11], [0, 1, 2, 3, 4, 5, 6, 7, 8, 9, 10, 11, 12], [0, 1, 2, 3, 4, 5, 6, 7, 8, 9, 10, 11, 12, 13]] [(0, none), (1, none), (2, none), (3, none), (4, none), (5, none), (6, none), (7, none), (8, none), (9, none), (10, none), (11, none), (12, none), (13, none), (14, none)] (by kernel_rfl) ?_
                    refine l_ds 69 (.one (.d (.int .i64 v4715))) ?_
                    refine l_ds 70 (.one (.d (.bool (decide (v4715 > 0))))) ?_
                    refine l_ds 71 (.one (.d (.bool (decide (v4715 > 0))))) ?_
                    refine l_split (s := 71) (by kernel_rfl) h (fun h => ?_) (fun h => ?_)
                    · refine l_ds 72 (.one (.ref 7 1 0 1)) ?_
                      refine l_ds 73 (.one (.d (.int .i64 x4748.id))) ?_
                      refine l_ds 74 (.one (.ref 200001 0 0 2)) ?_
                      refine l_ds 75 (.one (.d (.sl (List.map TSpan.enc x4639.spans)))) ?_
                      refine l_ds 76 (.one (.d (.int .i64 v4715))) ?_
                      refine l_ds 77 (.one (.d (.int .i64 (w64 (v4715 - 1))))) ?_
                      obtain ⟨h1869, x4756, h1870, h⟩ := h
                      refine l_spec (some 78) (.iad 14 (.t 75) (.t 77)) (.one (.d (.ptr [.int .i64 x4756.trace, .int .i64 x4756.id, .int .i64 x4756.parent, .int .i64 x4756.revision, .int .i64 x4756.clock, .int .i64 x4756.kind, .str x4756.service, .str x4756.version, .str x4756.operation, .int .i64 x4756.start, .int .i64 x4756.end_, .bool x4756.error, .sl (List.map TAttr.enc x4756.attrs), .sl (List.map TRef.enc x4756.links)])), []) (by kernel_rfl) (detA_none (d_iad_sl (enc := TSpan.enc) (k := .i64) x4639.spans x4756 (by kernel_rfl) (by kernel_rfl) h1869 h1870 rfl)) ?_
                      refine l_ds 79 (.one (.d (.ptr [.int .i64 x4756.id, .int .i64 x4756.parent, .int .i64 x4756.revision, .int .i64 x4756.clock, .int .i64 x4756.kind, .str x4756.service, .str x4756.version, .str x4756.operation, .int .i64 x4756.start, .int .i64 x4756.end_, .bool x4756.error, .sl (List.map TAttr.enc x4756.attrs), .sl (List.map TRef.enc x4756.links)]))) ?_
                      refine l_ds 80 (.one (.d (.int .i64 x4756.id))) ?_
                      refine l_ds 81 (.one (.d (.bool (decide (x4748.id ≤ x4756.id))))) ?_
                      refine l_ds 82 (.one (.d (.bool (decide (x4748.id ≤ x4756.id))))) ?_
                      refine l_ds 68 (.one (.d (.bool (decide (x4748.id ≤ x4756.id))))) ?_
                      refine l_nil ?_
                      refine q_fall ?_
                      exact Lab.m (decide (x4748.id ≤ x4756.id)) [(200001, some 200001)] h
                    · refine l_ds 72 (.tup []) ?_
                      refine l_ds 73 (.tup []) ?_
                      refine l_ds 74 (.tup []) ?_
                      refine l_ds 75 (.tup []) ?_
                      refine l_ds 76 (.tup []) ?_
                      refine l_ds 77 (.tup []) ?_
                      refine l_ds 78 (.tup []) ?_
                      refine l_ds 79 (.tup []) ?_
                      refine l_ds 80 (.tup []) ?_
                      refine l_ds 81 (.tup []) ?_
                      refine l_ds 82 (.one (.d (.bool false))) ?_
                      refine l_ds 68 (.one (.d (.bool false))) ?_
                      refine l_nil ?_
                      refine q_fall ?_
                      exact Lab.m false [(200001, some 200001)] h
                  · rintro v4755 h
                    have h : J30_5 K N4736 v4715 v4755 := h
                    unfold J30_5 at h
                    refine AW.cond' (by kernel_rfl) h (fun h => ?_) (fun h => ?_)
                    · refine AW.sregL [(0, none)] (by kernel_rfl) ?_
                      refine l_ds 2 (.one (.d (.int .i64 8))) ?_
                      refine l_nil ?_
                      refine AW.ret ?_
                      refine q_bret ?_
                      refine q_bret ?_
                      refine q_ret ?_
                      refine q_ret ?_
                      refine q_bret ?_
                      refine q_ret ?_
                      refine q_bret ?_
                      refine q_ret ?_
                      refine q_ret ?_
                      refine q_bret ?_
                      refine q_ret ?_
                      exact q_end [.one (.d (.int .i64 8))] [false] [.one (.d (.int .i64 8))] [] [] (by kernel_rfl) ⟨by kernel_rfl, by kernel_rfl⟩ (by kernel_rfl) (by kernel_rfl) (by kernel_rfl) (by kernel_rfl) (Eq.mp (by kernel_rfl) (hK 8 h)) (.inr rfl)
                    · refine AW.skip ?_
                      refine q_bfall ?_
                      refine q_bfall ?_
                      refine q_fall ?_
                      refine AW.regL [(0, none), (1, none)] (by kernel_rfl) ?_
                      refine l_ds 83 (.one (.d (.int .i64 (w64 (v4715 + 1))))) ?_
                      refine l_ds 52 (.one (.d (.int .i64 (w64 (v4715 + 1))))) ?_
                      refine l_nil ?_
                      refine q_fall ?_
                      exact Lab.m (w64 (v4715 + 1)) [(200001, some 200001)] h
            · refine AW.exit ?_
              refine q_exit ?_
              refine q_exit ?_
              refine q_bhere ?_
              refine q_fall ?_
              refine AW.regL [(0, none), (1, none), (2, none), (3, none), (4, none), (5, none)] (by kernel_rfl) ?_
              refine l_ds 84 (.one (.d (.int .i64 v4275))) ?_
              refine l_ds 85 (.one (.ref 200001 0 0 2)) ?_
              refine l_ds 86 (.one (.d (.sl (List.map TSpan.enc x4639.spans)))) ?_
              refine l_spec (some 87) (.lens (.t 86)) (.one (.d (.int .i64 (x4639.spans.length : Int))), []) (by kernel_rfl) (detA_none (d_lens_sl (enc := TSpan.enc) x4639.spans (by kernel_rfl))) ?_
              refine l_ds 88 (.one (.d (.int .i64 (w64 (v4275 + (x4639.spans.length : Int)))))) ?_
              refine l_ds 3 (.one (.d (.int .i64 (w64 (v4275 + (x4639.spans.length : Int)))))) ?_
              refine l_nil ?_
              refine q_bfall ?_
              refine q_fall ?_
              refine AW.regL [(0, none), (1, none)] (by kernel_rfl) ?_
              refine l_ds 89 (.one (.d (.int .i64 (w64 (v4276 + 1))))) ?_
              refine l_ds 11 (.one (.d (.int .i64 (w64 (v4276 + 1))))) ?_
              refine l_nil ?_
              refine q_fall ?_
              exact Lab.m ((w64 (v4275 + (x4639.spans.length : Int))), (w64 (v4276 + 1))) [] h
  · refine AW.exit ?_
    refine q_exit ?_
    refine q_exit ?_
    refine q_bhere ?_
    refine q_fall ?_
    refine AW.seq ?_
    refine AW.sregL [(0, none), (1, none)] (by kernel_rfl) ?_
    refine l_ds 90 (.one (.d (.int .i64 v4275))) ?_
    refine l_ds 91 (.one (.d (.bool (decide (v4275 > 4096))))) ?_
    refine l_nil ?_
    refine AW.cond' (by kernel_rfl) h (fun h => ?_) (fun h => ?_)
    · refine AW.sregL [(0, none)] (by kernel_rfl) ?_
      refine l_ds 2 (.one (.d (.int .i64 6))) ?_
      refine l_nil ?_
      refine AW.ret ?_
      refine q_ret ?_
      exact q_end [.one (.d (.int .i64 6))] [false] [.one (.d (.int .i64 6))] [] [] (by kernel_rfl) ⟨by kernel_rfl, by kernel_rfl⟩ (by kernel_rfl) (by kernel_rfl) (by kernel_rfl) (by kernel_rfl) (Eq.mp (by kernel_rfl) (hK 6 h)) (.inr rfl)
    · refine AW.skip ?_
      refine q_fall ?_
      refine AW.sregL [(0, none)] (by kernel_rfl) ?_
      refine l_ds 2 (.one (.d (.int .i64 0))) ?_
      refine l_nil ?_
      refine AW.ret ?_
      exact q_end [.one (.d (.int .i64 0))] [false] [.one (.d (.int .i64 0))] [] [] (by kernel_rfl) ⟨by kernel_rfl, by kernel_rfl⟩ (by kernel_rfl) (by kernel_rfl) (by kernel_rfl) (by kernel_rfl) (Eq.mp (by kernel_rfl) (hK 0 h)) (.inr rfl)
def r31_0 : List AR := [⟨some 2, .mov (.c (.int .i64 0)), [], none⟩]
def r31_1 : List AR := [⟨some 3, .mov (.c (.int .i64 0)), [], none⟩]
def r31_2 : List AR := [⟨some 4, .mov (.c (.int .i64 0)), [], none⟩]
def r31_3 : List AR := [⟨some 8, .mov (.t 4), [], none⟩,
  ⟨some 9, .mov (.t 0), [], none⟩,
  ⟨some 10, .lens (.t 9), [1], none⟩,
  ⟨some 11, .bin .lss (.t 8) (.t 10), [0, 2], none⟩]
def r31_4 : List AR := [⟨some 14, .mov (.t 0), [], none⟩,
  ⟨some 15, .mov (.t 4), [], none⟩,
  ⟨some 16, .iad 3 (.t 14) (.t 15), [0, 1], none⟩,
  ⟨some 17, .ld true 3 (.t 16), [2], none⟩,
  ⟨some 5, .alloc 53 true [.int .i64 0, .int .i64 0, .nils], [], none⟩,
  ⟨none, .st 3 (.t 5) (.t 17), [4, 3, 0, 1, 2, 3, 4], none⟩]
def r31_5 : List AR := [⟨some 18, .fad (.t 5) 0, [], none⟩,
  ⟨some 19, .ld false 1 (.t 18), [0], none⟩,
  ⟨some 20, .bin .lss (.t 19) (.c (.int .i64 1)), [1], none⟩,
  ⟨some 21, .mov (.t 20), [2], none⟩,
  ⟨some 22, .fad (.t 5) 0, [3], some (21, false)⟩,
  ⟨some 23, .ld false 1 (.t 22), [4, 3], some (21, false)⟩,
  ⟨some 24, .bin .gtr (.t 23) (.c (.int .i64 1099511627776)), [5, 3], some (21, false)⟩,
  ⟨some 25, .pick (.t 21) (.c (.bool true)) (.t 24), [3, 6], none⟩,
  ⟨some 26, .mov (.t 25), [7, 3], none⟩,
  ⟨some 27, .fad (.t 5) 1, [8], some (26, false)⟩,
  ⟨some 28, .ld false 1 (.t 27), [9, 8], some (26, false)⟩,
  ⟨some 29, .bin .lss (.t 28) (.c (.int .i64 1)), [10, 8], some (26, false)⟩,
  ⟨some 30, .pick (.t 26) (.c (.bool true)) (.t 29), [8, 11], none⟩,
  ⟨some 31, .mov (.t 30), [12, 8], none⟩,
  ⟨some 32, .fad (.t 5) 1, [13], some (31, false)⟩,
  ⟨some 33, .ld false 1 (.t 32), [14, 13], some (31, false)⟩,
  ⟨some 34, .bin .gtr (.t 33) (.c (.int .i64 1024)), [15, 13], some (31, false)⟩,
  ⟨some 35, .pick (.t 31) (.c (.bool true)) (.t 34), [13, 16], none⟩]
def r31_6 : List AR := [⟨some 2, .mov (.c (.int .i64 2)), [], none⟩]
def r31_7 : List AR := [⟨some 36, .mov (.t 4), [], none⟩,
  ⟨some 37, .bin .gtr (.t 36) (.c (.int .i64 0)), [0], none⟩,
  ⟨some 38, .mov (.t 37), [1], none⟩,
  ⟨some 39, .fad (.t 5) 0, [2], some (38, true)⟩,
  ⟨some 40, .ld false 1 (.t 39), [3, 2], some (38, true)⟩,
  ⟨some 41, .mov (.t 0), [2], some (38, true)⟩,
  ⟨some 42, .mov (.t 4), [2], some (38, true)⟩,
  ⟨some 43, .bin .sub (.t 42) (.c (.int .i64 1)), [6, 2], some (38, true)⟩,
  ⟨some 44, .iad 3 (.t 41) (.t 43), [5, 7, 2], some (38, true)⟩,
  ⟨some 45, .fad (.t 44) 0, [8, 2], some (38, true)⟩,
  ⟨some 46, .ld false 1 (.t 45), [9, 2], some (38, true)⟩,
  ⟨some 47, .bin .leq (.t 40) (.t 46), [4, 10, 2], some (38, true)⟩,
  ⟨some 48, .pick (.t 38) (.t 47) (.c (.bool false)), [2, 11], none⟩]
def r31_8 : List AR := [⟨some 2, .mov (.c (.int .i64 8)), [], none⟩]
def r31_9 : List AR := [⟨some 6, .mov (.c (.int .i64 0)), [], none⟩]
def r31_10 : List AR := [⟨some 49, .mov (.t 6), [], none⟩,
  ⟨some 50, .fad (.t 5) 2, [], none⟩,
  ⟨some 51, .ld false 1 (.t 50), [1], none⟩,
  ⟨some 52, .lens (.t 51), [2], none⟩,
  ⟨some 53, .bin .lss (.t 49) (.t 52), [0, 3], none⟩]
def r31_11 : List AR := [⟨some 56, .fad (.t 5) 2, [], none⟩,
  ⟨some 57, .ld false 1 (.t 56), [0], none⟩,
  ⟨some 58, .mov (.t 6), [], none⟩,
  ⟨some 59, .iad 14 (.t 57) (.t 58), [1, 2], none⟩,
  ⟨some 60, .ld true 14 (.t 59), [3], none⟩,
  ⟨some 61, .call 32 [.t 60], [4], none⟩,
  ⟨some 7, .mov (.t 61), [5, 5, 0, 1, 2, 3, 4, 5], none⟩]
def r31_12 : List AR := [⟨some 62, .mov (.t 7), [], none⟩,
  ⟨some 63, .bin .neq (.t 62) (.c (.int .i64 0)), [0], none⟩]
def r31_13 : List AR := [⟨some 64, .mov (.t 7), [], none⟩,
  ⟨some 2, .mov (.t 64), [0, 0], none⟩]
def r31_14 : List AR := [⟨some 65, .fad (.t 5) 2, [], none⟩,
  ⟨some 66, .ld false 1 (.t 65), [0], none⟩,
  ⟨some 67, .mov (.t 6), [], none⟩,
  ⟨some 68, .iad 14 (.t 66) (.t 67), [1, 2], none⟩,
  ⟨some 69, .fad (.t 68) 0, [3], none⟩,
  ⟨some 70, .ld false 1 (.t 69), [4], none⟩,
  ⟨some 71, .fad (.t 5) 0, [], none⟩,
  ⟨some 72, .ld false 1 (.t 71), [6], none⟩,
  ⟨some 73, .bin .neq (.t 70) (.t 72), [5, 7], none⟩]
def r31_15 : List AR := [⟨some 2, .mov (.c (.int .i64 17)), [], none⟩]
def r31_16 : List AR := [⟨some 74, .mov (.t 6), [], none⟩,
  ⟨some 75, .bin .gtr (.t 74) (.c (.int .i64 0)), [0], none⟩,
  ⟨some 76, .mov (.t 75), [1], none⟩,
  ⟨some 77, .fad (.t 5) 2, [2], some (76, true)⟩,
  ⟨some 78, .ld false 1 (.t 77), [3, 2], some (76, true)⟩,
  ⟨some 79, .mov (.t 6), [2], some (76, true)⟩,
  ⟨some 80, .iad 14 (.t 78) (.t 79), [4, 5, 2], some (76, true)⟩,
  ⟨some 81, .fad (.t 80) 1, [6, 2], some (76, true)⟩,
  ⟨some 82, .ld false 1 (.t 81), [7, 2], some (76, true)⟩,
  ⟨some 83, .fad (.t 5) 2, [2], some (76, true)⟩,
  ⟨some 84, .ld false 1 (.t 83), [9, 2], some (76, true)⟩,
  ⟨some 85, .mov (.t 6), [2], some (76, true)⟩,
  ⟨some 86, .bin .sub (.t 85) (.c (.int .i64 1)), [11, 2], some (76, true)⟩,
  ⟨some 87, .iad 14 (.t 84) (.t 86), [10, 12, 2], some (76, true)⟩,
  ⟨some 88, .fad (.t 87) 1, [13, 2], some (76, true)⟩,
  ⟨some 89, .ld false 1 (.t 88), [14, 2], some (76, true)⟩,
  ⟨some 90, .bin .leq (.t 82) (.t 89), [8, 15, 2], some (76, true)⟩,
  ⟨some 91, .pick (.t 76) (.t 90) (.c (.bool false)), [2, 16], none⟩]
def r31_17 : List AR := [⟨some 2, .mov (.c (.int .i64 8)), [], none⟩]
def r31_18 : List AR := [⟨some 54, .mov (.t 6), [], none⟩,
  ⟨some 55, .bin .add (.t 54) (.c (.int .i64 1)), [0], none⟩,
  ⟨some 6, .mov (.t 55), [1, 0, 1], none⟩]
def r31_19 : List AR := [⟨some 92, .mov (.t 3), [], none⟩,
  ⟨some 93, .fad (.t 5) 2, [], none⟩,
  ⟨some 94, .ld false 1 (.t 93), [1], none⟩,
  ⟨some 95, .lens (.t 94), [2], none⟩,
  ⟨some 96, .bin .add (.t 92) (.t 95), [0, 3], none⟩,
  ⟨some 3, .mov (.t 96), [4, 0, 1, 2, 3, 4], none⟩]
def r31_20 : List AR := [⟨some 12, .mov (.t 4), [], none⟩,
  ⟨some 13, .bin .add (.t 12) (.c (.int .i64 1)), [0], none⟩,
  ⟨some 4, .mov (.t 13), [1, 0, 1], none⟩]
def r31_21 : List AR := [⟨some 97, .mov (.t 3), [], none⟩,
  ⟨some 98, .bin .gtr (.t 97) (.c (.int .i64 4096)), [0], none⟩]
def r31_22 : List AR := [⟨some 2, .mov (.c (.int .i64 6)), [], none⟩]
def r31_23 : List AR := [⟨some 2, .mov (.c (.int .i64 0)), [], none⟩]
def c31 : ACode := .seq (.reg r31_0 false) (.seq (.reg r31_1 false) (.seq (.seq (.reg r31_2 false) (.blk 0 (.loop (.seq (.seq (.reg r31_3 false) (.cond (.t 11) (.skip) (.exit 0))) (.seq (.blk 1 (.seq (.reg r31_4 false) (.seq (.seq (.reg r31_5 false) (.cond (.t 35) (.seq (.reg r31_6 false) (.ret)) (.skip))) (.seq (.seq (.reg r31_7 true) (.cond (.t 48) (.seq (.reg r31_8 false) (.ret)) (.skip))) (.seq (.seq (.reg r31_9 false) (.blk 2 (.loop (.seq (.seq (.reg r31_10 false) (.cond (.t 53) (.skip) (.exit 2))) (.seq (.blk 3 (.seq (.seq (.reg r31_11 false) (.seq (.reg r31_12 false) (.cond (.t 63) (.seq (.reg r31_13 false) (.ret)) (.skip)))) (.seq (.seq (.reg r31_14 true) (.cond (.t 73) (.seq (.reg r31_15 false) (.ret)) (.skip))) (.seq (.reg r31_16 true) (.cond (.t 91) (.seq (.reg r31_17 false) (.ret)) (.skip)))))) (.reg r31_18 false)))))) (.reg r31_19 false)))))) (.reg r31_20 false)))))) (.seq (.seq (.reg r31_21 false) (.cond (.t 98) (.seq (.reg r31_22 false) (.ret)) (.skip))) (.seq (.reg r31_23 false) (.ret)))))
theorem body31 : Try.f31.body.map (comp Try.prog 99) = some c31 := by kernel_rfl
theorem res31 : allSome (Try.f31.results.toList.map (compRes Try.prog)) = some [.s 2] := by kernel_rfl
theorem cok31 {S : FSpec} (h : ∀ args K, S args K → args.all argOk = true ∧ args.length ≤ 99 ∧ AW Try.prog 99 (some ownP) c31 (initS args) (retPost [.s 2] args K)) : COK Try.prog 31 S := of_body Try.func31 Try.ntmps31 body31 res31 h

def J31_5 (K : Int → Prop) (N6435 : Int → Prop) (v6410 : Int) (v6458 : Bool) : Prop :=
  Cond v6458 (K 8) (N6435 (w64 (v6410 + 1)))

def L31_4 (x6318 : TTrace) (K : Int → Prop) (N6172 : (Int × Int) → Prop) (v5882 : Int) (v5883 : Int) (v6410 : Int) (N6435 : Int → Prop) : Prop :=
  Cond (decide (v6410 < (x6318.spans.length : Int))) (Idx x6318.spans v6410 fun x6454 => W32 x6454 fun r6455 => Cond (decide (¬ r6455 = 0)) (K r6455) (Cond (decide (¬ x6454.trace = x6318.id)) (K 17) (Cond (decide (v6410 > 0)) (Idx x6318.spans (w64 (v6410 - 1)) fun x6459 => J31_5 K N6435 v6410 (decide (x6454.id ≤ x6459.id))) (J31_5 K N6435 v6410 false)))) (N6172 ((w64 (v5882 + (x6318.spans.length : Int))), (w64 (v5883 + 1))))

def J31_3 (K : Int → Prop) (x6318 : TTrace) (N6172 : (Int × Int) → Prop) (v5882 : Int) (v5883 : Int) (v6327 : Bool) : Prop :=
  Cond v6327 (K 8) (LoopW (fun (s : Int) N6435 => L31_4 x6318 K N6172 v5882 v5883 s N6435) 0)

def J31_2 (K : Int → Prop) (v5883 : Int) (l_31 : List TTrace) (x6318 : TTrace) (N6172 : (Int × Int) → Prop) (v5882 : Int) (v6320 : Bool) : Prop :=
  Cond v6320 (K 2) (Cond (decide (v5883 > 0)) (Idx l_31 (w64 (v5883 - 1)) fun x6460 => J31_3 K x6318 N6172 v5882 v5883 (decide (x6318.id ≤ x6460.id))) (J31_3 K x6318 N6172 v5882 v5883 false))

def L31_1 (l_31 : List TTrace) (K : Int → Prop) (v5882 : Int) (v5883 : Int) (N6172 : (Int × Int) → Prop) : Prop :=
  Cond (decide (v5883 < (l_31.length : Int))) (Idx l_31 v5883 fun x6318 => Cond (decide (x6318.id < 1)) (J31_2 K v5883 l_31 x6318 N6172 v5882 true) (Cond (decide (x6318.id > 1099511627776)) (J31_2 K v5883 l_31 x6318 N6172 v5882 true) (Cond (decide (x6318.weight < 1)) (J31_2 K v5883 l_31 x6318 N6172 v5882 true) (J31_2 K v5883 l_31 x6318 N6172 v5882 (decide (x6318.weight > 1024)))))) (Cond (decide (v5882 > 4096)) (K 6) (K 0))

/-- sleuth/sleuthlaw25.check -/
def W31 (l_31 : List TTrace) (K : Int → Prop) : Prop :=
  LoopW (fun (s : (Int × Int)) N6172 => L31_1 l_31 K s.1 s.2 N6172) (0, 0)

def S31 : FSpec := fun args K => ∃ (l_31 : List TTrace), ∃ (Kr : Int → Prop), args = [.one (.d (.sl (List.map TTrace.enc l_31)))] ∧ W31 l_31 Kr ∧ ∀ r, Kr r → K (.one (.d (.int .i64 r))) []

theorem en31 : enters Try.prog 31 = true := by unfold enters; rw [Try.func31]; rfl
theorem cl31 (l_31 : List TTrace) {Kr : Int → Prop} (h : W31 l_31 Kr) : S31 [.one (.d (.sl (List.map TTrace.enc l_31)))] (fun rv rows => ∃ r, rv = (.one (.d (.int .i64 r))) ∧ rows = [] ∧ Kr r) := ⟨l_31, Kr, rfl, h, fun r hr => ⟨r, rfl, rfl, hr⟩⟩

theorem ok31 : COK Try.prog 31 S31 := by
  refine cok31 fun args K0 hS => ?_
  obtain ⟨l_31, K, rfl, h, hK⟩ := hS
  refine ⟨by kernel_rfl, by simp, ?_⟩
  unfold W31 at h
  refine AW.sregL [(0, none)] (by kernel_rfl) ?_
  refine l_ds 2 (.one (.d (.int .i64 0))) ?_
  refine l_nil ?_
  refine AW.sregL [(0, none)] (by kernel_rfl) ?_
  refine l_ds 3 (.one (.d (.int .i64 0))) ?_
  refine l_nil ?_
  refine AW.seq ?_
  refine AW.sregL [(0, none)] (by kernel_rfl) ?_
  refine l_ds 4 (.one (.d (.int .i64 0))) ?_
  refine l_nil ?_
  refine AW.blk ?_
  refine AW.loopL (S := (Int × Int)) (fun s => (fun (v5882 : Int) (v5883 : Int) => [(0, .one (.d (.sl (List.map TTrace.enc l_31)))), (3, .one (.d (.int .i64 v5882))), (4, .one (.d (.int .i64 v5883)))]) s.1 s.2) (fun s => (fun (v5882 : Int) (v5883 : Int) => []) s.1 s.2) (fun (s : (Int × Int)) N6172 => L31_1 l_31 K s.1 s.2 N6172) (N := fun s => LoopW (fun (s : (Int × Int)) N6172 => L31_1 l_31 K s.1 s.2 N6172) s) (Lab.m (0, 0) [] h) (fun _ h => h) ?_
  rintro ⟨v5882, v5883⟩ N6172 h
  have h : L31_1 l_31 K v5882 v5883 N6172 := h
  unfold L31_1 at h
  refine AW.seq ?_
  refine AW.sregL [(0, none), (1, none), (2, none), (3, none)] (by kernel_rfl) ?_
  refine l_ds 8 (.one (.d (.int .i64 v5883))) ?_
  refine l_ds 9 (.one (.d (.sl (List.map TTrace.enc l_31)))) ?_
  refine l_spec (some 10) (.lens (.t 9)) (.one (.d (.int .i64 (l_31.length : Int))), []) (by kernel_rfl) (detA_none (d_lens_sl (enc := TTrace.enc) l_31 (by kernel_rfl))) ?_
  refine l_ds 11 (.one (.d (.bool (decide (v5883 < (l_31.length : Int)))))) ?_
  refine l_nil ?_
  refine AW.cond' (by kernel_rfl) h (fun h => ?_) (fun h => ?_)
  · refine AW.skip ?_
    refine q_fall ?_
    refine AW.seq ?_
    refine AW.blk ?_
    refine AW.sregL [(0, none), (1, none), (2, none), (3, none), (4, none), (5, none)] (by kernel_rfl) ?_
    refine l_ds 14 (.one (.d (.sl (List.map TTrace.enc l_31)))) ?_
    refine l_ds 15 (.one (.d (.int .i64 v5883))) ?_
    obtain ⟨h2243, x6318, h2244, h⟩ := h
    refine l_spec (some 16) (.iad 3 (.t 14) (.t 15)) (.one (.d (.ptr [.int .i64 x6318.id, .int .i64 x6318.weight, .sl (List.map TSpan.enc x6318.spans)])), []) (by kernel_rfl) (detA_none (d_iad_sl (enc := TTrace.enc) (k := .i64) l_31 x6318 (by kernel_rfl) (by kernel_rfl) h2243 h2244 rfl)) ?_
    refine l_ds 17 (.agg [.d (.int .i64 x6318.id), .d (.int .i64 x6318.weight), .d (.sl (List.map TSpan.enc x6318.spans))]) ?_
    refine l_det (some 5) (.one (.ref 5 1 0 0), [(5, 1, .row true 53 3 [[.d (.int .i64 0), .d (.int .i64 0), .nils]])]) (by kernel_rfl) ?_
    refine l_det none (.tup [], [(5, 1, .row true 53 3 [[.d (.int .i64 x6318.id), .d (.int .i64 x6318.weight), .d (.sl (List.map TSpan.enc x6318.spans))]])]) (by kernel_rfl) ?_
    refine l_nil ?_
    refine AW.seq ?_
    refine AW.seqL (S := Bool) (fun s => (fun (v6320 : Bool) => [(0, .one (.d (.sl (List.map TTrace.enc l_31)))), (3, .one (.d (.int .i64 v5882))), (4, .one (.d (.int .i64 v5883))), (5, .one (.ref 200001 0 0 0)), (35, .one (.d (.bool v6320)))]) s) (fun s => (fun (v6320 : Bool) => [(200001, .expl true 53 3 [[.d (.int .i64 x6318.id), .d (.int .i64 x6318.weight), .d (.sl (List.map TSpan.enc x6318.spans))]])]) s) (fun s : Bool => J31_2 K v5883 l_31 x6318 N6172 v5882 s) ?_ ?_
    · refine AW.regL [(0, none), (1, none), (2, none), (3, none), (4, none), (5, none), (6, none), (7, none), (8, none), (9, none), (10, none), (11, none), (12, none), (13, none), (14, none), (15, none), (16, none), (17, none)] (by kernel_rfl) ?_
      refine l_ds 18 (.one (.ref 5 1 0 0)) ?_
      refine l_ds 19 (.one (.d (.int .i64 x6318.id))) ?_
      refine l_ds 20 (.one (.d (.bool (decide (x6318.id < 1))))) ?_
      refine l_ds 21 (.one (.d (.bool (decide (x6318.id < 1))))) ?_
      refine l_split (s := 21) (by kernel_rfl) h (fun h => ?_) (fun h => ?_)
      · refine l_ds 22 (.tup []) ?_
        refine l_ds 23 (.tup []) ?_
        refine l_ds 24 (.tup []) ?_
        refine l_ds 25 (.one (.d (.bool true))) ?_
        refine l_ds 26 (.one (.d (.bool true))) ?_
        refine l_ds 27 (.tup []) ?_
        refine l_ds 28 (.tup []) ?_
        refine l_ds 29 (.tup []) ?_
        refine l_ds 30 (.one (.d (.bool true))) ?_
        refine l_ds 31 (.one (.d (.bool true))) ?_
        refine l_ds 32 (.tup []) ?_
        refine l_ds 33 (.tup []) ?_
        refine l_ds 34 (.tup []) ?_
        refine l_ds 35 (.one (.d (.bool true))) ?_
        refine l_nil ?_
        refine q_fall ?_
        exact Lab.m true [(200001, some 5)] h
      · refine l_ds 22 (.one (.ref 5 1 0 0)) ?_
        refine l_ds 23 (.one (.d (.int .i64 x6318.id))) ?_
        refine l_ds 24 (.one (.d (.bool (decide (x6318.id > 1099511627776))))) ?_
        refine l_ds 25 (.one (.d (.bool (decide (x6318.id > 1099511627776))))) ?_
        refine l_ds 26 (.one (.d (.bool (decide (x6318.id > 1099511627776))))) ?_
        refine l_split (s := 26) (by kernel_rfl) h (fun h => ?_) (fun h => ?_)
        · refine l_ds 27 (.tup []) ?_
          refine l_ds 28 (.tup []) ?_
          refine l_ds 29 (.tup []) ?_
          refine l_ds 30 (.one (.d (.bool true))) ?_
          refine l_ds 31 (.one (.d (.bool true))) ?_
          refine l_ds 32 (.tup []) ?_
          refine l_ds 33 (.tup []) ?_
          refine l_ds 34 (.tup []) ?_
          refine l_ds 35 (.one (.d (.bool true))) ?_
          refine l_nil ?_
          refine q_fall ?_
          exact Lab.m true [(200001, some 5)] h
        · refine l_ds 27 (.one (.ref 5 1 0 1)) ?_
          refine l_ds 28 (.one (.d (.int .i64 x6318.weight))) ?_
          refine l_ds 29 (.one (.d (.bool (decide (x6318.weight < 1))))) ?_
          refine l_ds 30 (.one (.d (.bool (decide (x6318.weight < 1))))) ?_
          refine l_ds 31 (.one (.d (.bool (decide (x6318.weight < 1))))) ?_
          refine l_split (s := 31) (by kernel_rfl) h (fun h => ?_) (fun h => ?_)
          · refine l_ds 32 (.tup []) ?_
            refine l_ds 33 (.tup []) ?_
            refine l_ds 34 (.tup []) ?_
            refine l_ds 35 (.one (.d (.bool true))) ?_
            refine l_nil ?_
            refine q_fall ?_
            exact Lab.m true [(200001, some 5)] h
          · refine l_ds 32 (.one (.ref 5 1 0 1)) ?_
            refine l_ds 33 (.one (.d (.int .i64 x6318.weight))) ?_
            refine l_ds 34 (.one (.d (.bool (decide (x6318.weight > 1024))))) ?_
            refine l_ds 35 (.one (.d (.bool (decide (x6318.weight > 1024))))) ?_
            refine l_nil ?_
            refine q_fall ?_
            exact Lab.m (decide (x6318.weight > 1024)) [(200001, some 5)] h
    · rintro v6320 h
      have h : J31_2 K v5883 l_31 x6318 N6172 v5882 v6320 := h
      unfold J31_2 at h
      refine AW.cond' (by kernel_rfl) h (fun h => ?_) (fun h => ?_)
      · refine AW.sregL [(0, none)] (by kernel_rfl) ?_
        refine l_ds 2 (.one (.d (.int .i64 2))) ?_
        refine l_nil ?_
        refine AW.ret ?_
        refine q_ret ?_
        refine q_bret ?_
        refine q_ret ?_
        refine q_ret ?_
        refine q_bret ?_
        refine q_ret ?_
        exact q_end [.one (.d (.int .i64 2))] [false] [.one (.d (.int .i64 2))] [] [] (by kernel_rfl) ⟨by kernel_rfl, by kernel_rfl⟩ (by kernel_rfl) (by kernel_rfl) (by kernel_rfl) (by kernel_rfl) (Eq.mp (by kernel_rfl) (hK 2 h)) (.inr rfl)
      · refine AW.skip ?_
        refine q_fall ?_
        refine AW.seq ?_
        refine AW.seqL (S := Bool) (fun s => (fun (v6327 : Bool) => [(0, .one (.d (.sl (List.map TTrace.enc l_31)))), (3, .one (.d (.int .i64 v5882))), (4, .one (.d (.int .i64 v5883))), (5, .one (.ref 200001 0 0 0)), (48, .one (.d (.bool v6327)))]) s) (fun s => (fun (v6327 : Bool) => [(200001, .expl true 53 3 [[.d (.int .i64 x6318.id), .d (.int .i64 x6318.weight), .d (.sl (List.map TSpan.enc x6318.spans))]])]) s) (fun s : Bool => J31_3 K x6318 N6172 v5882 v5883 s) ?_ ?_
        · refine AW.regdL follows_mixed [[], [0], [0, 1], [0, 1, 2], [0, 1, 2, 3], [0, 1, 2], [0, 1, 2], [0, 1, 2, 6], [0, 1, 2, 5, 6, 7], [0, 1, 2, 5, 6, 7, 8], [0, 1, 2, 5, 6, 7, 8, 9], [0, 1, 2, 3, 4, 5, 6, 7, 8, 9, 10], [0, 1, 2, 3, 4, 5, 6, 7, 8, 9, 10, 11]] [(0, none), (1, none), (2, none), (3, none), (4, none), (5, none), (6, none), (7, none), (8, none), (9, none), (10, none), (11, none), (12, none)] (by kernel_rfl) ?_
          refine l_ds 36 (.one (.d (.int .i64 v5883))) ?_
          refine l_ds 37 (.one (.d (.bool (decide (v5883 > 0))))) ?_
          refine l_ds 38 (.one (.d (.bool (decide (v5883 > 0))))) ?_
          refine l_split (s := 38) (by kernel_rfl) h (fun h => ?_) (fun h => ?_)
          · refine l_ds 39 (.one (.ref 200001 0 0 0)) ?_
            refine l_ds 40 (.one (.d (.int .i64 x6318.id))) ?_
            refine l_ds 41 (.one (.d (.sl (List.map TTrace.enc l_31)))) ?_
            refine l_ds 42 (.one (.d (.int .i64 v5883))) ?_
            refine l_ds 43 (.one (.d (.int .i64 (w64 (v5883 - 1))))) ?_
            obtain ⟨h2447, x6460, h2448, h⟩ := h
            refine l_spec (some 44) (.iad 3 (.t 41) (.t 43)) (.one (.d (.ptr [.int .i64 x6460.id, .int .i64 x6460.weight, .sl (List.map TSpan.enc x6460.spans)])), []) (by kernel_rfl) (detA_none (d_iad_sl (enc := TTrace.enc) (k := .i64) l_31 x6460 (by kernel_rfl) (by kernel_rfl) h2447 h2448 rfl)) ?_
            refine l_ds 45 (.one (.d (.ptr [.int .i64 x6460.id, .int .i64 x6460.weight, .sl (List.map TSpan.enc x6460.spans)]))) ?_
            refine l_ds 46 (.one (.d (.int .i64 x6460.id))) ?_
            refine l_ds 47 (.one (.d (.bool (decide (x6318.id ≤ x6460.id))))) ?_
            refine l_ds 48 (.one (.d (.bool (decide (x6318.id ≤ x6460.id))))) ?_
            refine l_nil ?_
            refine q_fall ?_
            exact Lab.m (decide (x6318.id ≤ x6460.id)) [(200001, some 200001)] h
          · refine l_ds 39 (.tup []) ?_
            refine l_ds 40 (.tup []) ?_
            refine l_ds 41 (.tup []) ?_
            refine l_ds 42 (.tup []) ?_
            refine l_ds 43 (.tup []) ?_
            refine l_ds 44 (.tup []) ?_
            refine l_ds 45 (.tup []) ?_
            refine l_ds 46 (.tup []) ?_
            refine l_ds 47 (.tup []) ?_
            refine l_ds 48 (.one (.d (.bool false))) ?_
            refine l_nil ?_
            refine q_fall ?_
            exact Lab.m false [(200001, some 200001)] h
        · rintro v6327 h
          have h : J31_3 K x6318 N6172 v5882 v5883 v6327 := h
          unfold J31_3 at h
          refine AW.cond' (by kernel_rfl) h (fun h => ?_) (fun h => ?_)
          · refine AW.sregL [(0, none)] (by kernel_rfl) ?_
            refine l_ds 2 (.one (.d (.int .i64 8))) ?_
            refine l_nil ?_
            refine AW.ret ?_
            refine q_ret ?_
            refine q_bret ?_
            refine q_ret ?_
            refine q_ret ?_
            refine q_bret ?_
            refine q_ret ?_
            exact q_end [.one (.d (.int .i64 8))] [false] [.one (.d (.int .i64 8))] [] [] (by kernel_rfl) ⟨by kernel_rfl, by kernel_rfl⟩ (by kernel_rfl) (by kernel_rfl) (by kernel_rfl) (by kernel_rfl) (Eq.mp (by kernel_rfl) (hK 8 h)) (.inr rfl)
          · refine AW.skip ?_
            refine q_fall ?_
            refine AW.seq ?_
            refine AW.sregL [(0, none)] (by kernel_rfl) ?_
            refine l_ds 6 (.one (.d (.int .i64 0))) ?_
            refine l_nil ?_
            refine AW.blk ?_
            refine AW.loopL (S := Int) (fun s => (fun (v6410 : Int) => [(0, .one (.d (.sl (List.map TTrace.enc l_31)))), (3, .one (.d (.int .i64 v5882))), (4, .one (.d (.int .i64 v5883))), (5, .one (.ref 200001 0 0 0)), (6, .one (.d (.int .i64 v6410)))]) s) (fun s => (fun (v6410 : Int) => [(200001, .expl true 53 3 [[.d (.int .i64 x6318.id), .d (.int .i64 x6318.weight), .d (.sl (List.map TSpan.enc x6318.spans))]])]) s) (fun (s : Int) N6435 => L31_4 x6318 K N6172 v5882 v5883 s N6435) (N := fun s => LoopW (fun (s : Int) N6435 => L31_4 x6318 K N6172 v5882 v5883 s N6435) s) (Lab.m 0 [(200001, some 200001)] h) (fun _ h => h) ?_
            rintro v6410 N6435 h
            have h : L31_4 x6318 K N6172 v5882 v5883 v6410 N6435 := h
            unfold L31_4 at h
            refine AW.seq ?_
            refine AW.sregL [(0, none), (1, none), (2, none), (3, none), (4, none)] (by kernel_rfl) ?_
            refine l_ds 49 (.one (.d (.int .i64 v6410))) ?_
            refine l_ds 50 (.one (.ref 200001 0 0 2)) ?_
            refine l_ds 51 (.one (.d (.sl (List.map TSpan.enc x6318.spans)))) ?_
            refine l_spec (some 52) (.lens (.t 51)) (.one (.d (.int .i64 (x6318.spans.length : Int))), []) (by kernel_rfl) (detA_none (d_lens_sl (enc := TSpan.enc) x6318.spans (by kernel_rfl))) ?_
            refine l_ds 53 (.one (.d (.bool (decide (v6410 < (x6318.spans.length : Int)))))) ?_
            refine l_nil ?_
            refine AW.cond' (by kernel_rfl) h (fun h => ?_) (fun h => ?_)
            · refine AW.skip ?_
              refine q_fall ?_
              refine AW.seq ?_
              refine AW.blk ?_
              refine AW.seq ?_
              refine AW.sregL [(0, none), (1, none), (2, none), (3, none), (4, none), (5, none), (6, none)] (by kernel_rfl) ?_
              refine l_ds 56 (.one (.ref 200001 0 0 2)) ?_
              refine l_ds 57 (.one (.d (.sl (List.map TSpan.enc x6318.spans)))) ?_
              refine l_ds 58 (.one (.d (.int .i64 v6410))) ?_
              obtain ⟨h2438, x6454, h2439, h⟩ := h
              refine l_spec (some 59) (.iad 14 (.t 57) (.t 58)) (.one (.d (.ptr [.int .i64 x6454.trace, .int .i64 x6454.id, .int .i64 x6454.parent, .int .i64 x6454.revision, .int .i64 x6454.clock, .int .i64 x6454.kind, .str x6454.service, .str x6454.version, .str x6454.operation, .int .i64 x6454.start, .int .i64 x6454.end_, .bool x6454.error, .sl (List.map TAttr.enc x6454.attrs), .sl (List.map TRef.enc x6454.links)])), []) (by kernel_rfl) (detA_none (d_iad_sl (enc := TSpan.enc) (k := .i64) x6318.spans x6454 (by kernel_rfl) (by kernel_rfl) h2438 h2439 rfl)) ?_
              refine l_ds 60 (.agg [.d (.int .i64 x6454.trace), .d (.int .i64 x6454.id), .d (.int .i64 x6454.parent), .d (.int .i64 x6454.revision), .d (.int .i64 x6454.clock), .d (.int .i64 x6454.kind), .d (.str x6454.service), .d (.str x6454.version), .d (.str x6454.operation), .d (.int .i64 x6454.start), .d (.int .i64 x6454.end_), .d (.bool x6454.error), .d (.sl (List.map TAttr.enc x6454.attrs)), .d (.sl (List.map TRef.enc x6454.links))]) ?_
              refine l_call ok32 en32 (some 61) [.agg [.d (.int .i64 x6454.trace), .d (.int .i64 x6454.id), .d (.int .i64 x6454.parent), .d (.int .i64 x6454.revision), .d (.int .i64 x6454.clock), .d (.int .i64 x6454.kind), .d (.str x6454.service), .d (.str x6454.version), .d (.str x6454.operation), .d (.int .i64 x6454.start), .d (.int .i64 x6454.end_), .d (.bool x6454.error), .d (.sl (List.map TAttr.enc x6454.attrs)), .d (.sl (List.map TRef.enc x6454.links))]] [false] [.agg (List.map RC.d [.int .i64 x6454.trace, .int .i64 x6454.id, .int .i64 x6454.parent, .int .i64 x6454.revision, .int .i64 x6454.clock, .int .i64 x6454.kind, .str x6454.service, .str x6454.version, .str x6454.operation, .int .i64 x6454.start, .int .i64 x6454.end_, .bool x6454.error, .sl (List.map TAttr.enc x6454.attrs), .sl (List.map TRef.enc x6454.links)])] [] (by kernel_rfl) ⟨by kernel_rfl, by kernel_rfl⟩ (by kernel_rfl) (by kernel_rfl) (by kernel_rfl) (cl32 x6454 h) ?_
              rintro hR _ _ ⟨r6455, rfl, rfl, h⟩
              refine ⟨false, (.one (.d (.int .i64 r6455)), []), (fun hz => (by cases hz)), (ret_R hR (by kernel_rfl)), ?_⟩
              refine l_ds 7 (.one (.d (.int .i64 r6455))) ?_
              refine l_nil ?_
              refine AW.sregL [(0, none), (1, none)] (by kernel_rfl) ?_
              refine l_ds 62 (.one (.d (.int .i64 r6455))) ?_
              refine l_ds 63 (.one (.d (.bool (decide (¬ r6455 = 0))))) ?_
              refine l_nil ?_
              refine AW.cond' (by kernel_rfl) h (fun h => ?_) (fun h => ?_)
              · refine AW.sregL [(0, none), (1, none)] (by kernel_rfl) ?_
                refine l_ds 64 (.one (.d (.int .i64 r6455))) ?_
                refine l_ds 2 (.one (.d (.int .i64 r6455))) ?_
                refine l_nil ?_
                refine AW.ret ?_
                refine q_ret ?_
                refine q_bret ?_
                refine q_ret ?_
                refine q_ret ?_
                refine q_bret ?_
                refine q_ret ?_
                refine q_bret ?_
                refine q_ret ?_
                refine q_ret ?_
                refine q_bret ?_
                refine q_ret ?_
                exact q_end [.one (.d (.int .i64 r6455))] [false] [.one (.d (.int .i64 r6455))] [] [] (by kernel_rfl) ⟨by kernel_rfl, by kernel_rfl⟩ (by kernel_rfl) (by kernel_rfl) (by kernel_rfl) (by kernel_rfl) (Eq.mp (by kernel_rfl) (hK r6455 h)) (.inr rfl)
              · refine AW.skip ?_
                refine q_fall ?_
                refine AW.seq ?_
                refine AW.sregdL follows_mixed [[], [0], [], [0, 1, 2], [0, 1, 2, 3], [0, 1, 2, 3, 4], [], [6], [0, 1, 2, 3, 4, 5, 6, 7]] [(0, none), (1, none), (2, none), (3, none), (4, none), (5, none), (6, none), (7, none), (8, none)] (by kernel_rfl) ?_
                refine l_ds 65 (.one (.ref 200001 0 0 2)) ?_
                refine l_ds 66 (.one (.d (.sl (List.map TSpan.enc x6318.spans)))) ?_
                refine l_ds 67 (.one (.d (.int .i64 v6410))) ?_
                refine l_spec (some 68) (.iad 14 (.t 66) (.t 67)) (.one (.d (.ptr [.int .i64 x6454.trace, .int .i64 x6454.id, .int .i64 x6454.parent, .int .i64 x6454.revision, .int .i64 x6454.clock, .int .i64 x6454.kind, .str x6454.service, .str x6454.version, .str x6454.operation, .int .i64 x6454.start, .int .i64 x6454.end_, .bool x6454.error, .sl (List.map TAttr.enc x6454.attrs), .sl (List.map TRef.enc x6454.links)])), []) (by kernel_rfl) (detA_none (d_iad_sl (enc := TSpan.enc) (k := .i64) x6318.spans x6454 (by kernel_rfl) (by kernel_rfl) h2438 h2439 rfl)) ?_
                refine l_ds 69 (.one (.d (.ptr [.int .i64 x6454.trace, .int .i64 x6454.id, .int .i64 x6454.parent, .int .i64 x6454.revision, .int .i64 x6454.clock, .int .i64 x6454.kind, .str x6454.service, .str x6454.version, .str x6454.operation, .int .i64 x6454.start, .int .i64 x6454.end_, .bool x6454.error, .sl (List.map TAttr.enc x6454.attrs), .sl (List.map TRef.enc x6454.links)]))) ?_
                refine l_ds 70 (.one (.d (.int .i64 x6454.trace))) ?_
                refine l_ds 71 (.one (.ref 200001 0 0 0)) ?_
                refine l_ds 72 (.one (.d (.int .i64 x6318.id))) ?_
                refine l_ds 73 (.one (.d (.bool (decide (¬ x6454.trace = x6318.id))))) ?_
                refine l_nil ?_
                refine AW.cond' (by kernel_rfl) h (fun h => ?_) (fun h => ?_)
                · refine AW.sregL [(0, none)] (by kernel_rfl) ?_
                  refine l_ds 2 (.one (.d (.int .i64 17))) ?_
                  refine l_nil ?_
                  refine AW.ret ?_
                  refine q_ret ?_
                  refine q_bret ?_
                  refine q_ret ?_
                  refine q_ret ?_
                  refine q_bret ?_
                  refine q_ret ?_
                  refine q_bret ?_
                  refine q_ret ?_
                  refine q_ret ?_
                  refine q_bret ?_
                  refine q_ret ?_
                  exact q_end [.one (.d (.int .i64 17))] [false] [.one (.d (.int .i64 17))] [] [] (by kernel_rfl) ⟨by kernel_rfl, by kernel_rfl⟩ (by kernel_rfl) (by kernel_rfl) (by kernel_rfl) (by kernel_rfl) (Eq.mp (by kernel_rfl) (hK 17 h)) (.inr rfl)
                · refine AW.skip ?_
                  refine q_fall ?_
                  refine AW.seqL (S := Bool) (fun s => (fun (v6458 : Bool) => [(0, .one (.d (.sl (List.map TTrace.enc l_31)))), (3, .one (.d (.int .i64 v5882))), (4, .one (.d (.int .i64 v5883))), (5, .one (.ref 200001 0 0 0)), (6, .one (.d (.int .i64 v6410))), (91, .one (.d (.bool v6458)))]) s) (fun s => (fun (v6458 : Bool) => [(200001, .expl true 53 3 [[.d (.int .i64 x6318.id), .d (.int .i64 x6318.weight), .d (.sl (List.map TSpan.enc x6318.spans))]])]) s) (fun s : Bool => J31_5 K N6435 v6410 s) ?_ ?_
                  · refine AW.regdL follows_mixed [[], [0], [0, 1], [0, 1, 2], [0, 1, 2, 3], [0, 1, 2], [0, 1, 2, 3, 4, 5], [0, 1, 2, 3, 4, 5, 6], [0, 1, 2, 3, 4, 5, 6, 7], [0, 1, 2], [0, 1, 2, 9], [0, 1, 2], [0, 1, 2, 11], [0, 1, 2, 9, 10, 11, 12], [0, 1, 2, 9, 10, 11, 12, 13], [0, 1, 2, 9, 10, 11, 12, 13, 14], [0, 1, 2, 3, 4, 5, 6, 7, 8, 9, 10, 11, 12, 13, 14, 15], [0, 1, 2, 3, 4, 5, 6, 7, 8, 9, 10, 11, 12, 13, 14, 15, 16]] [(0, none), (1, none), (2, none), (3, none), (4, none), (5, none), (6, none), (7, none), (8, none), (9, none), (10, none), (11, none), (12, none), (13, none), (14, none), (15, none), (16, none), (17, none)] (by kernel_rfl) ?_
                    refine l_ds 74 (.one (.d (.int .i64 v6410))) ?_
                    refine l_ds 75 (.one (.d (.bool (decide (v6410 > 0))))) ?_
                    refine l_ds 76 (.one (.d (.bool (decide (v6410 > 0))))) ?_
                    refine l_split (s := 76) (by kernel_rfl) h (fun h => ?_) (fun h => ?_)
                    · refine l_ds 77 (.one (.ref 200001 0 0 2)) ?_
                      refine l_ds 78 (.one (.d (.sl (List.map TSpan.enc x6318.spans)))) ?_
                      refine l_ds 79 (.one (.d (.int .i64 v6410))) ?_
                      refine l_spec (some 80) (.iad 14 (.t 78) (.t 79)) (.one (.d (.ptr [.int .i64 x6454.trace, .int .i64 x6454.id, .int .i64 x6454.parent, .int .i64 x6454.revision, .int .i64 x6454.clock, .int .i64 x6454.kind, .str x6454.service, .str x6454.version, .str x6454.operation, .int .i64 x6454.start, .int .i64 x6454.end_, .bool x6454.error, .sl (List.map TAttr.enc x6454.attrs), .sl (List.map TRef.enc x6454.links)])), []) (by kernel_rfl) (detA_none (d_iad_sl (enc := TSpan.enc) (k := .i64) x6318.spans x6454 (by kernel_rfl) (by kernel_rfl) h2438 h2439 rfl)) ?_
                      refine l_ds 81 (.one (.d (.ptr [.int .i64 x6454.id, .int .i64 x6454.parent, .int .i64 x6454.revision, .int .i64 x6454.clock, .int .i64 x6454.kind, .str x6454.service, .str x6454.version, .str x6454.operation, .int .i64 x6454.start, .int .i64 x6454.end_, .bool x6454.error, .sl (List.map TAttr.enc x6454.attrs), .sl (List.map TRef.enc x6454.links)]))) ?_
                      refine l_ds 82 (.one (.d (.int .i64 x6454.id))) ?_
                      refine l_ds 83 (.one (.ref 200001 0 0 2)) ?_
                      refine l_ds 84 (.one (.d (.sl (List.map TSpan.enc x6318.spans)))) ?_
                      refine l_ds 85 (.one (.d (.int .i64 v6410))) ?_
                      refine l_ds 86 (.one (.d (.int .i64 (w64 (v6410 - 1))))) ?_
                      obtain ⟨h2445, x6459, h2446, h⟩ := h
                      refine l_spec (some 87) (.iad 14 (.t 84) (.t 86)) (.one (.d (.ptr [.int .i64 x6459.trace, .int .i64 x6459.id, .int .i64 x6459.parent, .int .i64 x6459.revision, .int .i64 x6459.clock, .int .i64 x6459.kind, .str x6459.service, .str x6459.version, .str x6459.operation, .int .i64 x6459.start, .int .i64 x6459.end_, .bool x6459.error, .sl (List.map TAttr.enc x6459.attrs), .sl (List.map TRef.enc x6459.links)])), []) (by kernel_rfl) (detA_none (d_iad_sl (enc := TSpan.enc) (k := .i64) x6318.spans x6459 (by kernel_rfl) (by kernel_rfl) h2445 h2446 rfl)) ?_
                      refine l_ds 88 (.one (.d (.ptr [.int .i64 x6459.id, .int .i64 x6459.parent, .int .i64 x6459.revision, .int .i64 x6459.clock, .int .i64 x6459.kind, .str x6459.service, .str x6459.version, .str x6459.operation, .int .i64 x6459.start, .int .i64 x6459.end_, .bool x6459.error, .sl (List.map TAttr.enc x6459.attrs), .sl (List.map TRef.enc x6459.links)]))) ?_
                      refine l_ds 89 (.one (.d (.int .i64 x6459.id))) ?_
                      refine l_ds 90 (.one (.d (.bool (decide (x6454.id ≤ x6459.id))))) ?_
                      refine l_ds 91 (.one (.d (.bool (decide (x6454.id ≤ x6459.id))))) ?_
                      refine l_nil ?_
                      refine q_fall ?_
                      exact Lab.m (decide (x6454.id ≤ x6459.id)) [(200001, some 200001)] h
                    · refine l_ds 77 (.tup []) ?_
                      refine l_ds 78 (.tup []) ?_
                      refine l_ds 79 (.tup []) ?_
                      refine l_ds 80 (.tup []) ?_
                      refine l_ds 81 (.tup []) ?_
                      refine l_ds 82 (.tup []) ?_
                      refine l_ds 83 (.tup []) ?_
                      refine l_ds 84 (.tup []) ?_
                      refine l_ds 85 (.tup []) ?_
                      refine l_ds 86 (.tup []) ?_
                      refine l_ds 87 (.tup []) ?_
                      refine l_ds 88 (.tup []) ?_
                      refine l_ds 89 (.tup []) ?_
                      refine l_ds 90 (.tup []) ?_
                      refine l_ds 91 (.one (.d (.bool false))) ?_
                      refine l_nil ?_
                      refine q_fall ?_
                      exact Lab.m false [(200001, some 200001)] h
                  · rintro v6458 h
                    have h : J31_5 K N6435 v6410 v6458 := h
                    unfold J31_5 at h
                    refine AW.cond' (by kernel_rfl) h (fun h => ?_) (fun h => ?_)
                    · refine AW.sregL [(0, none)] (by kernel_rfl) ?_
                      refine l_ds 2 (.one (.d (.int .i64 8))) ?_
                      refine l_nil ?_
                      refine AW.ret ?_
                      refine q_bret ?_
                      refine q_ret ?_
                      refine q_ret ?_
                      refine q_bret ?_
                      refine q_ret ?_
                      refine q_bret ?_
                      refine q_ret ?_
                      refine q_ret ?_
                      refine q_bret ?_
                      refine q_ret ?_
                      exact q_end [.one (.d (.int .i64 8))] [false] [.one (.d (.int .i64 8))] [] [] (by kernel_rfl) ⟨by kernel_rfl, by kernel_rfl⟩ (by kernel_rfl) (by kernel_rfl) (by kernel_rfl) (by kernel_rfl) (Eq.mp (by kernel_rfl) (hK 8 h)) (.inr rfl)
                    · refine AW.skip ?_
                      refine q_bfall ?_
                      refine q_fall ?_
                      refine AW.regL [(0, none), (1, none), (2, none)] (by kernel_rfl) ?_
                      refine l_ds 54 (.one (.d (.int .i64 v6410))) ?_
                      refine l_ds 55 (.one (.d (.int .i64 (w64 (v6410 + 1))))) ?_
                      refine l_ds 6 (.one (.d (.int .i64 (w64 (v6410 + 1))))) ?_
                      refine l_nil ?_
                      refine q_fall ?_
                      exact Lab.m (w64 (v6410 + 1)) [(200001, some 200001)] h
            · refine AW.exit ?_
              refine q_exit ?_
              refine q_exit ?_
              refine q_bhere ?_
              refine q_fall ?_
              refine AW.regL [(0, none), (1, none), (2, none), (3, none), (4, none), (5, none)] (by kernel_rfl) ?_
              refine l_ds 92 (.one (.d (.int .i64 v5882))) ?_
              refine l_ds 93 (.one (.ref 200001 0 0 2)) ?_
              refine l_ds 94 (.one (.d (.sl (List.map TSpan.enc x6318.spans)))) ?_
              refine l_spec (some 95) (.lens (.t 94)) (.one (.d (.int .i64 (x6318.spans.length : Int))), []) (by kernel_rfl) (detA_none (d_lens_sl (enc := TSpan.enc) x6318.spans (by kernel_rfl))) ?_
              refine l_ds 96 (.one (.d (.int .i64 (w64 (v5882 + (x6318.spans.length : Int)))))) ?_
              refine l_ds 3 (.one (.d (.int .i64 (w64 (v5882 + (x6318.spans.length : Int)))))) ?_
              refine l_nil ?_
              refine q_bfall ?_
              refine q_fall ?_
              refine AW.regL [(0, none), (1, none), (2, none)] (by kernel_rfl) ?_
              refine l_ds 12 (.one (.d (.int .i64 v5883))) ?_
              refine l_ds 13 (.one (.d (.int .i64 (w64 (v5883 + 1))))) ?_
              refine l_ds 4 (.one (.d (.int .i64 (w64 (v5883 + 1))))) ?_
              refine l_nil ?_
              refine q_fall ?_
              exact Lab.m ((w64 (v5882 + (x6318.spans.length : Int))), (w64 (v5883 + 1))) [] h
  · refine AW.exit ?_
    refine q_exit ?_
    refine q_exit ?_
    refine q_bhere ?_
    refine q_fall ?_
    refine AW.seq ?_
    refine AW.sregL [(0, none), (1, none)] (by kernel_rfl) ?_
    refine l_ds 97 (.one (.d (.int .i64 v5882))) ?_
    refine l_ds 98 (.one (.d (.bool (decide (v5882 > 4096))))) ?_
    refine l_nil ?_
    refine AW.cond' (by kernel_rfl) h (fun h => ?_) (fun h => ?_)
    · refine AW.sregL [(0, none)] (by kernel_rfl) ?_
      refine l_ds 2 (.one (.d (.int .i64 6))) ?_
      refine l_nil ?_
      refine AW.ret ?_
      refine q_ret ?_
      exact q_end [.one (.d (.int .i64 6))] [false] [.one (.d (.int .i64 6))] [] [] (by kernel_rfl) ⟨by kernel_rfl, by kernel_rfl⟩ (by kernel_rfl) (by kernel_rfl) (by kernel_rfl) (by kernel_rfl) (Eq.mp (by kernel_rfl) (hK 6 h)) (.inr rfl)
    · refine AW.skip ?_
      refine q_fall ?_
      refine AW.sregL [(0, none)] (by kernel_rfl) ?_
      refine l_ds 2 (.one (.d (.int .i64 0))) ?_
      refine l_nil ?_
      refine AW.ret ?_
      exact q_end [.one (.d (.int .i64 0))] [false] [.one (.d (.int .i64 0))] [] [] (by kernel_rfl) ⟨by kernel_rfl, by kernel_rfl⟩ (by kernel_rfl) (by kernel_rfl) (by kernel_rfl) (by kernel_rfl) (Eq.mp (by kernel_rfl) (hK 0 h)) (.inr rfl)
def r41_0 : List AR := [⟨some 2, .box 27 true 7 (.t 0), [], none⟩,
  ⟨some 4, .mov (.c (.int .i64 0)), [], none⟩]
def r41_1 : List AR := [⟨some 5, .fad (.t 2) 0, [], none⟩,
  ⟨some 6, .ld false 1 (.t 5), [0], none⟩,
  ⟨some 7, .mov (.t 1), [], none⟩,
  ⟨some 8, .iad 3 (.t 6) (.t 7), [1, 2], none⟩,
  ⟨some 9, .fad (.t 8) 0, [3], none⟩,
  ⟨some 10, .ld false 1 (.t 9), [4], none⟩,
  ⟨some 11, .bin .rem (.t 10) (.c (.int .u8 64)), [5], none⟩,
  ⟨some 12, .cvi .i64 (.t 11), [6], none⟩,
  ⟨some 13, .bin .shl (.t 12) (.c (.int .u64 20)), [7], none⟩,
  ⟨some 14, .bin .add (.t 13) (.c (.int .i64 1)), [8], none⟩,
  ⟨some 15, .mov (.t 1), [], none⟩,
  ⟨some 16, .bin .add (.t 14) (.t 15), [9, 10], none⟩,
  ⟨some 4, .mov (.t 16), [11, 0, 1, 2, 3, 4, 5, 6, 7, 8, 9, 10, 11], none⟩]
def c41 : ACode := .seq (.reg r41_0 false) (.seq (.reg r41_1 false) (.ret))
theorem body41 : Try.f41.body.map (comp Try.prog 17) = some c41 := by kernel_rfl
theorem res41 : allSome (Try.f41.results.toList.map (compRes Try.prog)) = some [.s 4] := by kernel_rfl
theorem cok41 {S : FSpec} (h : ∀ args K, S args K → args.all argOk = true ∧ args.length ≤ 17 ∧ AW Try.prog 17 (some ownP) c41 (initS args) (retPost [.s 4] args K)) : COK Try.prog 41 S := of_body Try.func41 Try.ntmps41 body41 res41 h

/-- sleuth/sleuthlaw13.TraceId -/
def W41 (s_41 : TStory) (k_41 : Int) (K : Int → Prop) : Prop :=
  Idx s_41.trees k_41 fun x6467 => K (w64 ((w64 ((w64 ((w64 (Int.tmod x6467.slot 64)) * 2 ^ 20)) + 1)) + k_41))

def S41 : FSpec := fun args K => ∃ (s_41 : TStory), ∃ (k_41 : Int), ∃ (Kr : Int → Prop), args = [.agg (List.map RC.d (TStory.enc s_41)), .one (.d (.int .i64 k_41))] ∧ W41 s_41 k_41 Kr ∧ ∀ r, Kr r → K (.one (.d (.int .i64 r))) []

theorem en41 : enters Try.prog 41 = true := by unfold enters; rw [Try.func41]; rfl
theorem cl41 (s_41 : TStory) (k_41 : Int) {Kr : Int → Prop} (h : W41 s_41 k_41 Kr) : S41 [.agg (List.map RC.d (TStory.enc s_41)), .one (.d (.int .i64 k_41))] (fun rv rows => ∃ r, rv = (.one (.d (.int .i64 r))) ∧ rows = [] ∧ Kr r) := ⟨s_41, k_41, Kr, rfl, h, fun r hr => ⟨r, rfl, rfl, hr⟩⟩

theorem ok41 : COK Try.prog 41 S41 := by
  refine cok41 fun args K0 hS => ?_
  obtain ⟨s_41, k_41, K, rfl, h, hK⟩ := hS
  refine ⟨by kernel_rfl, by simp, ?_⟩
  unfold W41 at h
  refine AW.sregL [(0, none), (1, none)] (by kernel_rfl) ?_
  refine l_det (some 2) (.one (.ref 2 1 0 0), [(2, 1, .row true 27 7 [[.d (.sl (List.map TTree.enc s_41.trees)), .d (.int .i8 s_41.offsets.e0), .d (.int .i8 s_41.offsets.e1), .d (.int .i8 s_41.offsets.e2), .d (.int .i8 s_41.offsets.e3), .d (.sl (List.map TSync.enc s_41.syncs)), .d (.int .u8 s_41.wrong)]])]) (by kernel_rfl) ?_
  refine l_ds 4 (.one (.d (.int .i64 0))) ?_
  refine l_nil ?_
  refine AW.sregL [(0, none), (1, none), (2, none), (3, none), (4, none), (5, none), (6, none), (7, none), (8, none), (9, none), (10, none), (11, none), (12, none)] (by kernel_rfl) ?_
  refine l_ds 5 (.one (.ref 2 1 0 0)) ?_
  refine l_ds 6 (.one (.d (.sl (List.map TTree.enc s_41.trees)))) ?_
  refine l_ds 7 (.one (.d (.int .i64 k_41))) ?_
  obtain ⟨h3, x6467, h4, h⟩ := h
  refine l_spec (some 8) (.iad 3 (.t 6) (.t 7)) (.one (.d (.ptr [.int .u8 x6467.slot, .int .u8 x6467.start, .sl (List.map TCall.enc x6467.calls)])), []) (by kernel_rfl) (detA_none (d_iad_sl (enc := TTree.enc) (k := .i64) s_41.trees x6467 (by kernel_rfl) (by kernel_rfl) h3 h4 rfl)) ?_
  refine l_ds 9 (.one (.d (.ptr [.int .u8 x6467.slot, .int .u8 x6467.start, .sl (List.map TCall.enc x6467.calls)]))) ?_
  refine l_ds 10 (.one (.d (.int .u8 x6467.slot))) ?_
  refine l_ds 11 (.one (.d (.int .u8 (Int.tmod x6467.slot 64)))) ?_
  refine l_ds 12 (.one (.d (.int .i64 (w64 (Int.tmod x6467.slot 64))))) ?_
  refine l_ds 13 (.one (.d (.int .i64 (w64 ((w64 (Int.tmod x6467.slot 64)) * 2 ^ 20))))) ?_
  refine l_ds 14 (.one (.d (.int .i64 (w64 ((w64 ((w64 (Int.tmod x6467.slot 64)) * 2 ^ 20)) + 1))))) ?_
  refine l_ds 15 (.one (.d (.int .i64 k_41))) ?_
  refine l_ds 16 (.one (.d (.int .i64 (w64 ((w64 ((w64 ((w64 (Int.tmod x6467.slot 64)) * 2 ^ 20)) + 1)) + k_41))))) ?_
  refine l_ds 4 (.one (.d (.int .i64 (w64 ((w64 ((w64 ((w64 (Int.tmod x6467.slot 64)) * 2 ^ 20)) + 1)) + k_41))))) ?_
  refine l_nil ?_
  refine AW.ret ?_
  exact q_end [.one (.d (.int .i64 (w64 ((w64 ((w64 ((w64 (Int.tmod x6467.slot 64)) * 2 ^ 20)) + 1)) + k_41))))] [false] [.one (.d (.int .i64 (w64 ((w64 ((w64 ((w64 (Int.tmod x6467.slot 64)) * 2 ^ 20)) + 1)) + k_41))))] [] [] (by kernel_rfl) ⟨by kernel_rfl, by kernel_rfl⟩ (by kernel_rfl) (by kernel_rfl) (by kernel_rfl) (by kernel_rfl) (Eq.mp (by kernel_rfl) (hK (w64 ((w64 ((w64 ((w64 (Int.tmod x6467.slot 64)) * 2 ^ 20)) + 1)) + k_41)) h)) (.inr rfl)
def r83_0 : List AR := [⟨some 1, .box 153 true 11 (.t 0), [], none⟩,
  ⟨some 2, .mov (.c (.int .i64 0)), [], none⟩]
def r83_1 : List AR := [⟨some 3, .fad (.t 1) 2, [], none⟩,
  ⟨some 4, .ld false 1 (.t 3), [0], none⟩,
  ⟨some 5, .bin .rem (.t 4) (.c (.int .u8 5)), [1], none⟩,
  ⟨some 6, .cvi .i64 (.t 5), [2], none⟩,
  ⟨some 7, .bin .add (.c (.int .i64 1)) (.t 6), [3], none⟩,
  ⟨some 2, .mov (.t 7), [4, 0, 1, 2, 3, 4], none⟩]
def c83 : ACode := .seq (.reg r83_0 false) (.seq (.reg r83_1 false) (.ret))
theorem body83 : Try.f83.body.map (comp Try.prog 8) = some c83 := by kernel_rfl
theorem res83 : allSome (Try.f83.results.toList.map (compRes Try.prog)) = some [.s 2] := by kernel_rfl
theorem cok83 {S : FSpec} (h : ∀ args K, S args K → args.all argOk = true ∧ args.length ≤ 8 ∧ AW Try.prog 8 (some ownP) c83 (initS args) (retPost [.s 2] args K)) : COK Try.prog 83 S := of_body Try.func83 Try.ntmps83 body83 res83 h

/-- sleuth/sleuthlaw13.kind -/
def W83 (c_83 : TCall) (K : Int → Prop) : Prop :=
  K (w64 (1 + (w64 (Int.tmod c_83.kind 5))))

def S83 : FSpec := fun args K => ∃ (c_83 : TCall), ∃ (Kr : Int → Prop), args = [.agg (List.map RC.d (TCall.enc c_83))] ∧ W83 c_83 Kr ∧ ∀ r, Kr r → K (.one (.d (.int .i64 r))) []

theorem en83 : enters Try.prog 83 = true := by unfold enters; rw [Try.func83]; rfl
theorem cl83 (c_83 : TCall) {Kr : Int → Prop} (h : W83 c_83 Kr) : S83 [.agg (List.map RC.d (TCall.enc c_83))] (fun rv rows => ∃ r, rv = (.one (.d (.int .i64 r))) ∧ rows = [] ∧ Kr r) := ⟨c_83, Kr, rfl, h, fun r hr => ⟨r, rfl, rfl, hr⟩⟩

theorem ok83 : COK Try.prog 83 S83 := by
  refine cok83 fun args K0 hS => ?_
  obtain ⟨c_83, K, rfl, h, hK⟩ := hS
  refine ⟨by kernel_rfl, by simp, ?_⟩
  unfold W83 at h
  refine AW.sregL [(0, none), (1, none)] (by kernel_rfl) ?_
  refine l_det (some 1) (.one (.ref 1 1 0 0), [(1, 1, .row true 153 11 [[.d (.int .u8 c_83.parent), .d (.int .u8 c_83.clock), .d (.int .u8 c_83.kind), .d (.int .u8 c_83.service), .d (.int .u8 c_83.version), .d (.int .u8 c_83.operation), .d (.int .u8 c_83.wait), .d (.int .u8 c_83.long), .d (.int .u8 c_83.link), .d (.int .u8 c_83.tag), .d (.bool c_83.fail)]])]) (by kernel_rfl) ?_
  refine l_ds 2 (.one (.d (.int .i64 0))) ?_
  refine l_nil ?_
  refine AW.sregL [(0, none), (1, none), (2, none), (3, none), (4, none), (5, none)] (by kernel_rfl) ?_
  refine l_ds 3 (.one (.ref 1 1 0 2)) ?_
  refine l_ds 4 (.one (.d (.int .u8 c_83.kind))) ?_
  refine l_ds 5 (.one (.d (.int .u8 (Int.tmod c_83.kind 5)))) ?_
  refine l_ds 6 (.one (.d (.int .i64 (w64 (Int.tmod c_83.kind 5))))) ?_
  refine l_ds 7 (.one (.d (.int .i64 (w64 (1 + (w64 (Int.tmod c_83.kind 5))))))) ?_
  refine l_ds 2 (.one (.d (.int .i64 (w64 (1 + (w64 (Int.tmod c_83.kind 5))))))) ?_
  refine l_nil ?_
  refine AW.ret ?_
  exact q_end [.one (.d (.int .i64 (w64 (1 + (w64 (Int.tmod c_83.kind 5))))))] [false] [.one (.d (.int .i64 (w64 (1 + (w64 (Int.tmod c_83.kind 5))))))] [] [] (by kernel_rfl) ⟨by kernel_rfl, by kernel_rfl⟩ (by kernel_rfl) (by kernel_rfl) (by kernel_rfl) (by kernel_rfl) (Eq.mp (by kernel_rfl) (hK (w64 (1 + (w64 (Int.tmod c_83.kind 5)))) h)) (.inr rfl)
end Go.Proofs.Ytnpdeecoejabgaa
