/- Go functions: their shallow forms, and that they keep their contracts. Printed by a program of mine (gs.py). -/
import Derived.Test.YtnpdeecoejabgaaFA2
set_option maxRecDepth 100000
set_option linter.unusedVariables false
set_option linter.unusedSimpArgs false
namespace Go.Proofs.Ytnpdeecoejabgaa
open Go Go.RowKit

def r32_0 : List AR := [⟨some 1, .box 58 true 14 (.t 0), [], none⟩,
  ⟨some 2, .mov (.c (.int .i64 0)), [], none⟩]
def r32_1 : List AR := [⟨some 4, .fad (.t 1) 0, [], none⟩,
  ⟨some 5, .ld false 1 (.t 4), [0], none⟩,
  ⟨some 6, .call 53 [.t 5], [1], none⟩,
  ⟨some 7, .mov (.t 6), [2, 2], none⟩,
  ⟨some 8, .fad (.t 1) 1, [3], some (7, false)⟩,
  ⟨some 9, .ld false 1 (.t 8), [4, 3], some (7, false)⟩,
  ⟨some 10, .call 53 [.t 9], [5, 3, 3], some (7, false)⟩,
  ⟨some 11, .pick (.t 7) (.c (.bool true)) (.t 10), [3, 6], none⟩,
  ⟨some 12, .mov (.t 11), [7, 6], none⟩,
  ⟨some 13, .fad (.t 1) 2, [8], some (12, false)⟩,
  ⟨some 14, .ld false 1 (.t 13), [9, 8], some (12, false)⟩,
  ⟨some 15, .bin .lss (.t 14) (.c (.int .i64 0)), [10, 8], some (12, false)⟩,
  ⟨some 16, .pick (.t 12) (.c (.bool true)) (.t 15), [8, 11], none⟩,
  ⟨some 17, .mov (.t 16), [12, 8], none⟩,
  ⟨some 18, .fad (.t 1) 2, [13], some (17, false)⟩,
  ⟨some 19, .ld false 1 (.t 18), [14, 13], some (17, false)⟩,
  ⟨some 20, .bin .gtr (.t 19) (.c (.int .i64 1099511627776)), [15, 13], some (17, false)⟩,
  ⟨some 21, .pick (.t 17) (.c (.bool true)) (.t 20), [13, 16], none⟩,
  ⟨some 22, .mov (.t 21), [17, 13], none⟩,
  ⟨some 23, .fad (.t 1) 3, [18], some (22, false)⟩,
  ⟨some 24, .ld false 1 (.t 23), [19, 18], some (22, false)⟩,
  ⟨some 25, .bin .lss (.t 24) (.c (.int .i64 0)), [20, 18], some (22, false)⟩,
  ⟨some 26, .pick (.t 22) (.c (.bool true)) (.t 25), [18, 21], none⟩,
  ⟨some 27, .mov (.t 26), [22, 18], none⟩,
  ⟨some 28, .fad (.t 1) 3, [23], some (27, false)⟩,
  ⟨some 29, .ld false 1 (.t 28), [24, 23], some (27, false)⟩,
  ⟨some 30, .bin .gtr (.t 29) (.c (.int .i64 1048576)), [25, 23], some (27, false)⟩,
  ⟨some 31, .pick (.t 27) (.c (.bool true)) (.t 30), [23, 26], none⟩,
  ⟨some 32, .mov (.t 31), [27, 23], none⟩,
  ⟨some 33, .fad (.t 1) 4, [28], some (32, false)⟩,
  ⟨some 34, .ld false 1 (.t 33), [29, 28], some (32, false)⟩,
  ⟨some 35, .bin .lss (.t 34) (.c (.int .i64 1)), [30, 28], some (32, false)⟩,
  ⟨some 36, .pick (.t 32) (.c (.bool true)) (.t 35), [28, 31], none⟩,
  ⟨some 37, .mov (.t 36), [32, 28], none⟩,
  ⟨some 38, .fad (.t 1) 4, [33], some (37, false)⟩,
  ⟨some 39, .ld false 1 (.t 38), [34, 33], some (37, false)⟩,
  ⟨some 40, .bin .gtr (.t 39) (.c (.int .i64 1048576)), [35, 33], some (37, false)⟩,
  ⟨some 41, .pick (.t 37) (.c (.bool true)) (.t 40), [33, 36], none⟩,
  ⟨some 3, .mov (.t 41), [37, 33], none⟩]
def r32_2 : List AR := [⟨some 2, .mov (.c (.int .i64 2)), [], none⟩]
def r32_3 : List AR := [⟨some 43, .fad (.t 1) 5, [], none⟩,
  ⟨some 44, .ld false 1 (.t 43), [0], none⟩,
  ⟨some 45, .bin .lss (.t 44) (.c (.int .i64 1)), [1], none⟩,
  ⟨some 46, .mov (.t 45), [2], none⟩,
  ⟨some 47, .fad (.t 1) 5, [3], some (46, false)⟩,
  ⟨some 48, .ld false 1 (.t 47), [4, 3], some (46, false)⟩,
  ⟨some 49, .bin .gtr (.t 48) (.c (.int .i64 5)), [5, 3], some (46, false)⟩,
  ⟨some 50, .pick (.t 46) (.c (.bool true)) (.t 49), [3, 6], none⟩,
  ⟨some 42, .mov (.t 50), [7, 3], none⟩]
def r32_4 : List AR := [⟨some 2, .mov (.c (.int .i64 12)), [], none⟩]
def r32_5 : List AR := [⟨some 52, .fad (.t 1) 6, [], none⟩,
  ⟨some 53, .ld false 1 (.t 52), [0], none⟩,
  ⟨some 54, .call 54 [.t 53], [1], none⟩,
  ⟨some 55, .un .not (.t 54), [2], none⟩,
  ⟨some 56, .mov (.t 55), [3, 2], none⟩,
  ⟨some 57, .fad (.t 1) 8, [4], some (56, false)⟩,
  ⟨some 58, .ld false 1 (.t 57), [5, 4], some (56, false)⟩,
  ⟨some 59, .call 54 [.t 58], [6, 4, 4], some (56, false)⟩,
  ⟨some 60, .un .not (.t 59), [7, 4], some (56, false)⟩,
  ⟨some 61, .pick (.t 56) (.c (.bool true)) (.t 60), [4, 8], none⟩,
  ⟨some 62, .mov (.t 61), [9, 7], none⟩,
  ⟨some 63, .fad (.t 1) 7, [10], some (62, false)⟩,
  ⟨some 64, .ld false 1 (.t 63), [11, 10], some (62, false)⟩,
  ⟨some 65, .bin .neq (.t 64) (.c (.str ⟨#[]⟩)), [12, 10], some (62, false)⟩,
  ⟨some 66, .mov (.t 65), [13, 10, 10], some (62, false)⟩,
  ⟨some 67, .fad (.t 1) 7, [14], some (66, true)⟩,
  ⟨some 68, .ld false 1 (.t 67), [15, 14], some (66, true)⟩,
  ⟨some 69, .call 54 [.t 68], [16, 14, 14], some (66, true)⟩,
  ⟨some 70, .un .not (.t 69), [17, 14], some (66, true)⟩,
  ⟨some 71, .pick (.t 66) (.t 70) (.c (.bool false)), [14, 18, 10], some (62, false)⟩,
  ⟨some 72, .pick (.t 62) (.c (.bool true)) (.t 71), [10, 19], none⟩,
  ⟨some 51, .mov (.t 72), [20, 17], none⟩]
def r32_6 : List AR := [⟨some 2, .mov (.c (.int .i64 11)), [], none⟩]
def r32_7 : List AR := [⟨some 74, .fad (.t 1) 9, [], none⟩,
  ⟨some 75, .ld false 1 (.t 74), [0], none⟩,
  ⟨some 76, .fad (.t 1) 10, [], none⟩,
  ⟨some 77, .ld false 1 (.t 76), [2], none⟩,
  ⟨some 78, .mm false [.t 75, .t 77], [1, 3], none⟩,
  ⟨some 79, .bin .lss (.t 78) (.c (.int .i64 (-1099511627776))), [4], none⟩,
  ⟨some 80, .mov (.t 79), [5], none⟩,
  ⟨some 81, .fad (.t 1) 9, [6], some (80, false)⟩,
  ⟨some 82, .ld false 1 (.t 81), [7, 6], some (80, false)⟩,
  ⟨some 83, .fad (.t 1) 10, [6], some (80, false)⟩,
  ⟨some 84, .ld false 1 (.t 83), [9, 6], some (80, false)⟩,
  ⟨some 85, .mm true [.t 82, .t 84], [8, 10, 6], some (80, false)⟩,
  ⟨some 86, .bin .gtr (.t 85) (.c (.int .i64 1099511627776)), [11, 6], some (80, false)⟩,
  ⟨some 87, .pick (.t 80) (.c (.bool true)) (.t 86), [6, 12], none⟩,
  ⟨some 73, .mov (.t 87), [13, 6], none⟩]
def r32_8 : List AR := [⟨some 2, .mov (.c (.int .i64 32)), [], none⟩]
def r32_9 : List AR := [⟨some 89, .fad (.t 1) 10, [], none⟩,
  ⟨some 90, .ld false 1 (.t 89), [0], none⟩,
  ⟨some 91, .fad (.t 1) 9, [], none⟩,
  ⟨some 92, .ld false 1 (.t 91), [2], none⟩,
  ⟨some 93, .bin .lss (.t 90) (.t 92), [1, 3], none⟩,
  ⟨some 88, .mov (.t 93), [4], none⟩]
def r32_10 : List AR := [⟨some 2, .mov (.c (.int .i64 8)), [], none⟩]
def r32_11 : List AR := [⟨some 95, .fad (.t 1) 10, [], none⟩,
  ⟨some 96, .ld false 1 (.t 95), [0], none⟩,
  ⟨some 97, .fad (.t 1) 9, [], none⟩,
  ⟨some 98, .ld false 1 (.t 97), [2], none⟩,
  ⟨some 99, .bin .sub (.t 96) (.t 98), [1, 3], none⟩,
  ⟨some 100, .bin .gtr (.t 99) (.c (.int .i64 1099511627776)), [4], none⟩,
  ⟨some 94, .mov (.t 100), [5], none⟩]
def r32_12 : List AR := [⟨some 2, .mov (.c (.int .i64 32)), [], none⟩]
def r32_13 : List AR := [⟨some 101, .fad (.t 1) 12, [], none⟩,
  ⟨some 102, .ld false 1 (.t 101), [0], none⟩,
  ⟨some 103, .call 56 [.t 102], [1], none⟩,
  ⟨some 104, .fad (.t 1) 13, [], none⟩,
  ⟨some 105, .ld false 1 (.t 104), [3], none⟩,
  ⟨some 106, .call 57 [.t 105], [4, 2], none⟩,
  ⟨some 107, .bsl 33 1 2 [.int .i64 0] [(0, .t 103), (1, .t 106)], [2, 5], none⟩,
  ⟨some 108, .call 55 [.t 107], [6, 5], none⟩,
  ⟨some 2, .mov (.t 108), [7, 7, 0, 1, 2, 3, 4, 5, 6, 7], none⟩]
def c32 : ACode := .seq (.reg r32_0 false) (.seq (.blk 0 (.seq (.reg r32_1 false) (.cond (.t 3) (.seq (.reg r32_2 false) (.ret)) (.seq (.reg r32_3 false) (.cond (.t 42) (.seq (.reg r32_4 false) (.ret)) (.seq (.reg r32_5 false) (.cond (.t 51) (.seq (.reg r32_6 false) (.ret)) (.seq (.reg r32_7 false) (.cond (.t 73) (.seq (.reg r32_8 false) (.ret)) (.seq (.reg r32_9 false) (.cond (.t 88) (.seq (.reg r32_10 false) (.ret)) (.seq (.reg r32_11 false) (.cond (.t 94) (.seq (.reg r32_12 false) (.ret)) (.skip)))))))))))))) (.seq (.reg r32_13 true) (.ret)))
theorem body32 : Try.f32.body.map (comp Try.prog 109) = some c32 := by kernel_rfl
theorem res32 : allSome (Try.f32.results.toList.map (compRes Try.prog)) = some [.s 2] := by kernel_rfl
theorem cok32 {S : FSpec} (h : ∀ args K, S args K → args.all argOk = true ∧ args.length ≤ 109 ∧ AW Try.prog 109 (some ownP) c32 (initS args) (retPost [.s 2] args K)) : COK Try.prog 32 S := of_body Try.func32 Try.ntmps32 body32 res32 h

def J32_4 (K : Int → Prop) (s_32 : TSpan) (v2518 : Bool) : Prop :=
  Cond v2518 (K 32) (Cond (decide (s_32.end_ < s_32.start)) (K 8) (Cond (decide ((w64 (s_32.end_ - s_32.start)) > 1099511627776)) (K 32) (W56 s_32.attrs fun r2896 => W57 s_32.links fun r2897 => W55 [r2896, r2897] fun r2898 => K r2898)))

def J32_3 (K : Int → Prop) (s_32 : TSpan) (v2517 : Bool) : Prop :=
  Cond v2517 (K 11) (Cond (decide ((if s_32.end_ < s_32.start then s_32.end_ else s_32.start) < (-1099511627776))) (J32_4 K s_32 true) (J32_4 K s_32 (decide ((if s_32.end_ > s_32.start then s_32.end_ else s_32.start) > 1099511627776))))

def J32_2 (K : Int → Prop) (s_32 : TSpan) (v2510 : Bool) : Prop :=
  Cond v2510 (K 12) (W54 s_32.service fun r2899 => Cond (!r2899) (J32_3 K s_32 true) (W54 s_32.operation fun r2900 => Cond (!r2900) (J32_3 K s_32 true) (Cond (decide (¬ s_32.version = (⟨#[]⟩ : ByteArray))) (W54 s_32.version fun r2901 => J32_3 K s_32 (!r2901)) (J32_3 K s_32 false))))

def J32_1 (K : Int → Prop) (s_32 : TSpan) (v2509 : Bool) : Prop :=
  Cond v2509 (K 2) (Cond (decide (s_32.kind < 1)) (J32_2 K s_32 true) (J32_2 K s_32 (decide (s_32.kind > 5))))

/-- sleuth/span.Check -/
def W32 (s_32 : TSpan) (K : Int → Prop) : Prop :=
  W53 s_32.trace fun r2902 => Cond r2902 (J32_1 K s_32 true) (W53 s_32.id fun r2903 => Cond r2903 (J32_1 K s_32 true) (Cond (decide (s_32.parent < 0)) (J32_1 K s_32 true) (Cond (decide (s_32.parent > 1099511627776)) (J32_1 K s_32 true) (Cond (decide (s_32.revision < 0)) (J32_1 K s_32 true) (Cond (decide (s_32.revision > 1048576)) (J32_1 K s_32 true) (Cond (decide (s_32.clock < 1)) (J32_1 K s_32 true) (J32_1 K s_32 (decide (s_32.clock > 1048576)))))))))

def S32 : FSpec := fun args K => ∃ (s_32 : TSpan), ∃ (Kr : Int → Prop), args = [.agg (List.map RC.d (TSpan.enc s_32))] ∧ W32 s_32 Kr ∧ ∀ r, Kr r → K (.one (.d (.int .i64 r))) []

theorem en32 : enters Try.prog 32 = true := by unfold enters; rw [Try.func32]; rfl
theorem cl32 (s_32 : TSpan) {Kr : Int → Prop} (h : W32 s_32 Kr) : S32 [.agg (List.map RC.d (TSpan.enc s_32))] (fun rv rows => ∃ r, rv = (.one (.d (.int .i64 r))) ∧ rows = [] ∧ Kr r) := ⟨s_32, Kr, rfl, h, fun r hr => ⟨r, rfl, rfl, hr⟩⟩

theorem ok32 : COK Try.prog 32 S32 := by
  refine cok32 fun args K0 hS => ?_
  obtain ⟨s_32, K, rfl, h, hK⟩ := hS
  refine ⟨by kernel_rfl, by simp, ?_⟩
  unfold W32 at h
  refine AW.sregL [(0, none), (1, none)] (by kernel_rfl) ?_
  refine l_det (some 1) (.one (.ref 1 1 0 0), [(1, 1, .row true 58 14 [[.d (.int .i64 s_32.trace), .d (.int .i64 s_32.id), .d (.int .i64 s_32.parent), .d (.int .i64 s_32.revision), .d (.int .i64 s_32.clock), .d (.int .i64 s_32.kind), .d (.str s_32.service), .d (.str s_32.version), .d (.str s_32.operation), .d (.int .i64 s_32.start), .d (.int .i64 s_32.end_), .d (.bool s_32.error), .d (.sl (List.map TAttr.enc s_32.attrs)), .d (.sl (List.map TRef.enc s_32.links))]])]) (by kernel_rfl) ?_
  refine l_det (some 2) (.one (.d (.int .i64 0)), []) (by kernel_rfl) ?_
  refine l_nil ?_
  refine AW.seq ?_
  refine AW.blk ?_
  refine AW.seqL (S := Bool) (fun s => (fun (v2509 : Bool) => [(1, .one (.ref 200001 0 0 0)), (3, .one (.d (.bool v2509)))]) s) (fun s => (fun (v2509 : Bool) => [(200001, .expl true 58 14 [[.d (.int .i64 s_32.trace), .d (.int .i64 s_32.id), .d (.int .i64 s_32.parent), .d (.int .i64 s_32.revision), .d (.int .i64 s_32.clock), .d (.int .i64 s_32.kind), .d (.str s_32.service), .d (.str s_32.version), .d (.str s_32.operation), .d (.int .i64 s_32.start), .d (.int .i64 s_32.end_), .d (.bool s_32.error), .d (.sl (List.map TAttr.enc s_32.attrs)), .d (.sl (List.map TRef.enc s_32.links))]])]) s) (fun s : Bool => J32_1 K s_32 s) ?_ ?_
  · refine AW.regL [(0, none), (1, none), (2, none), (3, none), (4, none), (5, none), (6, none), (7, none), (8, none), (9, none), (10, none), (11, none), (12, none), (13, none), (14, none), (15, none), (16, none), (17, none), (18, none), (19, none), (20, none), (21, none), (22, none), (23, none), (24, none), (25, none), (26, none), (27, none), (28, none), (29, none), (30, none), (31, none), (32, none), (33, none), (34, none), (35, none), (36, none), (37, none), (38, none)] (by kernel_rfl) ?_
    refine l_det (some 4) (.one (.ref 1 1 0 0), []) (by kernel_rfl) ?_
    refine l_det (some 5) (.one (.d (.int .i64 s_32.trace)), []) (by kernel_rfl) ?_
    refine l_call ok53 en53 (some 6) [.one (.d (.int .i64 s_32.trace))] [false] [.one (.d (.int .i64 s_32.trace))] [] (by kernel_rfl) ⟨by kernel_rfl, by kernel_rfl⟩ (by kernel_rfl) (by kernel_rfl) (by kernel_rfl) (cl53 s_32.trace h) ?_
    rintro hR _ _ ⟨r2902, rfl, rfl, h⟩
    refine ⟨false, (.one (.d (.bool r2902)), []), (fun hz => (by cases hz)), (ret_R hR (by kernel_rfl)), ?_⟩
    refine l_det (some 7) (.one (.d (.bool r2902)), []) (by kernel_rfl) ?_
    refine l_split (s := 7) (by kernel_rfl) h (fun h => ?_) (fun h => ?_)
    · refine l_det (some 8) (.tup [], []) (by kernel_rfl) ?_
      refine l_det (some 9) (.tup [], []) (by kernel_rfl) ?_
      refine l_skip (some 10) (by kernel_rfl) (by kernel_rfl) (by kernel_rfl) ?_
      refine l_det (some 11) (.one (.d (.bool true)), []) (by kernel_rfl) ?_
      refine l_det (some 12) (.one (.d (.bool true)), []) (by kernel_rfl) ?_
      refine l_det (some 13) (.tup [], []) (by kernel_rfl) ?_
      refine l_det (some 14) (.tup [], []) (by kernel_rfl) ?_
      refine l_det (some 15) (.tup [], []) (by kernel_rfl) ?_
      refine l_det (some 16) (.one (.d (.bool true)), []) (by kernel_rfl) ?_
      refine l_det (some 17) (.one (.d (.bool true)), []) (by kernel_rfl) ?_
      refine l_det (some 18) (.tup [], []) (by kernel_rfl) ?_
      refine l_det (some 19) (.tup [], []) (by kernel_rfl) ?_
      refine l_det (some 20) (.tup [], []) (by kernel_rfl) ?_
      refine l_det (some 21) (.one (.d (.bool true)), []) (by kernel_rfl) ?_
      refine l_det (some 22) (.one (.d (.bool true)), []) (by kernel_rfl) ?_
      refine l_det (some 23) (.tup [], []) (by kernel_rfl) ?_
      refine l_det (some 24) (.tup [], []) (by kernel_rfl) ?_
      refine l_det (some 25) (.tup [], []) (by kernel_rfl) ?_
      refine l_det (some 26) (.one (.d (.bool true)), []) (by kernel_rfl) ?_
      refine l_det (some 27) (.one (.d (.bool true)), []) (by kernel_rfl) ?_
      refine l_det (some 28) (.tup [], []) (by kernel_rfl) ?_
      refine l_det (some 29) (.tup [], []) (by kernel_rfl) ?_
      refine l_det (some 30) (.tup [], []) (by kernel_rfl) ?_
      refine l_det (some 31) (.one (.d (.bool true)), []) (by kernel_rfl) ?_
      refine l_det (some 32) (.one (.d (.bool true)), []) (by kernel_rfl) ?_
      refine l_det (some 33) (.tup [], []) (by kernel_rfl) ?_
      refine l_det (some 34) (.tup [], []) (by kernel_rfl) ?_
      refine l_det (some 35) (.tup [], []) (by kernel_rfl) ?_
      refine l_det (some 36) (.one (.d (.bool true)), []) (by kernel_rfl) ?_
      refine l_det (some 37) (.one (.d (.bool true)), []) (by kernel_rfl) ?_
      refine l_det (some 38) (.tup [], []) (by kernel_rfl) ?_
      refine l_det (some 39) (.tup [], []) (by kernel_rfl) ?_
      refine l_det (some 40) (.tup [], []) (by kernel_rfl) ?_
      refine l_det (some 41) (.one (.d (.bool true)), []) (by kernel_rfl) ?_
      refine l_det (some 3) (.one (.d (.bool true)), []) (by kernel_rfl) ?_
      refine l_nil ?_
      refine q_fall ?_
      exact Lab.mk true [(200001, some 1)] (by kernel_rfl) (by kernel_rfl) (by kernel_rfl) (by kernel_rfl) h
    · refine l_det (some 8) (.one (.ref 1 1 0 1), []) (by kernel_rfl) ?_
      refine l_det (some 9) (.one (.d (.int .i64 s_32.id)), []) (by kernel_rfl) ?_
      refine l_call ok53 en53 (some 10) [.one (.d (.int .i64 s_32.id))] [false] [.one (.d (.int .i64 s_32.id))] [] (by kernel_rfl) ⟨by kernel_rfl, by kernel_rfl⟩ (by kernel_rfl) (by kernel_rfl) (by kernel_rfl) (cl53 s_32.id h) ?_
      rintro hR _ _ ⟨r2903, rfl, rfl, h⟩
      refine ⟨false, (.one (.d (.bool r2903)), []), (fun hz => (by cases hz)), (ret_R hR (by kernel_rfl)), ?_⟩
      refine l_det (some 11) (.one (.d (.bool r2903)), []) (by kernel_rfl) ?_
      refine l_det (some 12) (.one (.d (.bool r2903)), []) (by kernel_rfl) ?_
      refine l_split (s := 12) (by kernel_rfl) h (fun h => ?_) (fun h => ?_)
      · refine l_det (some 13) (.tup [], []) (by kernel_rfl) ?_
        refine l_det (some 14) (.tup [], []) (by kernel_rfl) ?_
        refine l_det (some 15) (.tup [], []) (by kernel_rfl) ?_
        refine l_det (some 16) (.one (.d (.bool true)), []) (by kernel_rfl) ?_
        refine l_det (some 17) (.one (.d (.bool true)), []) (by kernel_rfl) ?_
        refine l_det (some 18) (.tup [], []) (by kernel_rfl) ?_
        refine l_det (some 19) (.tup [], []) (by kernel_rfl) ?_
        refine l_det (some 20) (.tup [], []) (by kernel_rfl) ?_
        refine l_det (some 21) (.one (.d (.bool true)), []) (by kernel_rfl) ?_
        refine l_det (some 22) (.one (.d (.bool true)), []) (by kernel_rfl) ?_
        refine l_det (some 23) (.tup [], []) (by kernel_rfl) ?_
        refine l_det (some 24) (.tup [], []) (by kernel_rfl) ?_
        refine l_det (some 25) (.tup [], []) (by kernel_rfl) ?_
        refine l_det (some 26) (.one (.d (.bool true)), []) (by kernel_rfl) ?_
        refine l_det (some 27) (.one (.d (.bool true)), []) (by kernel_rfl) ?_
        refine l_det (some 28) (.tup [], []) (by kernel_rfl) ?_
        refine l_det (some 29) (.tup [], []) (by kernel_rfl) ?_
        refine l_det (some 30) (.tup [], []) (by kernel_rfl) ?_
        refine l_det (some 31) (.one (.d (.bool true)), []) (by kernel_rfl) ?_
        refine l_det (some 32) (.one (.d (.bool true)), []) (by kernel_rfl) ?_
        refine l_det (some 33) (.tup [], []) (by kernel_rfl) ?_
        refine l_det (some 34) (.tup [], []) (by kernel_rfl) ?_
        refine l_det (some 35) (.tup [], []) (by kernel_rfl) ?_
        refine l_det (some 36) (.one (.d (.bool true)), []) (by kernel_rfl) ?_
        refine l_det (some 37) (.one (.d (.bool true)), []) (by kernel_rfl) ?_
        refine l_det (some 38) (.tup [], []) (by kernel_rfl) ?_
        refine l_det (some 39) (.tup [], []) (by kernel_rfl) ?_
        refine l_det (some 40) (.tup [], []) (by kernel_rfl) ?_
        refine l_det (some 41) (.one (.d (.bool true)), []) (by kernel_rfl) ?_
        refine l_det (some 3) (.one (.d (.bool true)), []) (by kernel_rfl) ?_
        refine l_nil ?_
        refine q_fall ?_
        exact Lab.mk true [(200001, some 1)] (by kernel_rfl) (by kernel_rfl) (by kernel_rfl) (by kernel_rfl) h
      · refine l_det (some 13) (.one (.ref 1 1 0 2), []) (by kernel_rfl) ?_
        refine l_det (some 14) (.one (.d (.int .i64 s_32.parent)), []) (by kernel_rfl) ?_
        refine l_det (some 15) (.one (.d (.bool (decide (s_32.parent < 0)))), []) (by kernel_rfl) ?_
        refine l_det (some 16) (.one (.d (.bool (decide (s_32.parent < 0)))), []) (by kernel_rfl) ?_
        refine l_det (some 17) (.one (.d (.bool (decide (s_32.parent < 0)))), []) (by kernel_rfl) ?_
        refine l_split (s := 17) (by kernel_rfl) h (fun h => ?_) (fun h => ?_)
        · refine l_det (some 18) (.tup [], []) (by kernel_rfl) ?_
          refine l_det (some 19) (.tup [], []) (by kernel_rfl) ?_
          refine l_det (some 20) (.tup [], []) (by kernel_rfl) ?_
          refine l_det (some 21) (.one (.d (.bool true)), []) (by kernel_rfl) ?_
          refine l_det (some 22) (.one (.d (.bool true)), []) (by kernel_rfl) ?_
          refine l_det (some 23) (.tup [], []) (by kernel_rfl) ?_
          refine l_det (some 24) (.tup [], []) (by kernel_rfl) ?_
          refine l_det (some 25) (.tup [], []) (by kernel_rfl) ?_
          refine l_det (some 26) (.one (.d (.bool true)), []) (by kernel_rfl) ?_
          refine l_det (some 27) (.one (.d (.bool true)), []) (by kernel_rfl) ?_
          refine l_det (some 28) (.tup [], []) (by kernel_rfl) ?_
          refine l_det (some 29) (.tup [], []) (by kernel_rfl) ?_
          refine l_det (some 30) (.tup [], []) (by kernel_rfl) ?_
          refine l_det (some 31) (.one (.d (.bool true)), []) (by kernel_rfl) ?_
          refine l_det (some 32) (.one (.d (.bool true)), []) (by kernel_rfl) ?_
          refine l_det (some 33) (.tup [], []) (by kernel_rfl) ?_
          refine l_det (some 34) (.tup [], []) (by kernel_rfl) ?_
          refine l_det (some 35) (.tup [], []) (by kernel_rfl) ?_
          refine l_det (some 36) (.one (.d (.bool true)), []) (by kernel_rfl) ?_
          refine l_det (some 37) (.one (.d (.bool true)), []) (by kernel_rfl) ?_
          refine l_det (some 38) (.tup [], []) (by kernel_rfl) ?_
          refine l_det (some 39) (.tup [], []) (by kernel_rfl) ?_
          refine l_det (some 40) (.tup [], []) (by kernel_rfl) ?_
          refine l_det (some 41) (.one (.d (.bool true)), []) (by kernel_rfl) ?_
          refine l_det (some 3) (.one (.d (.bool true)), []) (by kernel_rfl) ?_
          refine l_nil ?_
          refine q_fall ?_
          exact Lab.mk true [(200001, some 1)] (by kernel_rfl) (by kernel_rfl) (by kernel_rfl) (by kernel_rfl) h
        · refine l_det (some 18) (.one (.ref 1 1 0 2), []) (by kernel_rfl) ?_
          refine l_det (some 19) (.one (.d (.int .i64 s_32.parent)), []) (by kernel_rfl) ?_
          refine l_det (some 20) (.one (.d (.bool (decide (s_32.parent > 1099511627776)))), []) (by kernel_rfl) ?_
          refine l_det (some 21) (.one (.d (.bool (decide (s_32.parent > 1099511627776)))), []) (by kernel_rfl) ?_
          refine l_det (some 22) (.one (.d (.bool (decide (s_32.parent > 1099511627776)))), []) (by kernel_rfl) ?_
          refine l_split (s := 22) (by kernel_rfl) h (fun h => ?_) (fun h => ?_)
          · refine l_det (some 23) (.tup [], []) (by kernel_rfl) ?_
            refine l_det (some 24) (.tup [], []) (by kernel_rfl) ?_
            refine l_det (some 25) (.tup [], []) (by kernel_rfl) ?_
            refine l_det (some 26) (.one (.d (.bool true)), []) (by kernel_rfl) ?_
            refine l_det (some 27) (.one (.d (.bool true)), []) (by kernel_rfl) ?_
            refine l_det (some 28) (.tup [], []) (by kernel_rfl) ?_
            refine l_det (some 29) (.tup [], []) (by kernel_rfl) ?_
            refine l_det (some 30) (.tup [], []) (by kernel_rfl) ?_
            refine l_det (some 31) (.one (.d (.bool true)), []) (by kernel_rfl) ?_
            refine l_det (some 32) (.one (.d (.bool true)), []) (by kernel_rfl) ?_
            refine l_det (some 33) (.tup [], []) (by kernel_rfl) ?_
            refine l_det (some 34) (.tup [], []) (by kernel_rfl) ?_
            refine l_det (some 35) (.tup [], []) (by kernel_rfl) ?_
            refine l_det (some 36) (.one (.d (.bool true)), []) (by kernel_rfl) ?_
            refine l_det (some 37) (.one (.d (.bool true)), []) (by kernel_rfl) ?_
            refine l_det (some 38) (.tup [], []) (by kernel_rfl) ?_
            refine l_det (some 39) (.tup [], []) (by kernel_rfl) ?_
            refine l_det (some 40) (.tup [], []) (by kernel_rfl) ?_
            refine l_det (some 41) (.one (.d (.bool true)), []) (by kernel_rfl) ?_
            refine l_det (some 3) (.one (.d (.bool true)), []) (by kernel_rfl) ?_
            refine l_nil ?_
            refine q_fall ?_
            exact Lab.mk true [(200001, some 1)] (by kernel_rfl) (by kernel_rfl) (by kernel_rfl) (by kernel_rfl) h
          · refine l_det (some 23) (.one (.ref 1 1 0 3), []) (by kernel_rfl) ?_
            refine l_det (some 24) (.one (.d (.int .i64 s_32.revision)), []) (by kernel_rfl) ?_
            refine l_det (some 25) (.one (.d (.bool (decide (s_32.revision < 0)))), []) (by kernel_rfl) ?_
            refine l_det (some 26) (.one (.d (.bool (decide (s_32.revision < 0)))), []) (by kernel_rfl) ?_
            refine l_det (some 27) (.one (.d (.bool (decide (s_32.revision < 0)))), []) (by kernel_rfl) ?_
            refine l_split (s := 27) (by kernel_rfl) h (fun h => ?_) (fun h => ?_)
            · refine l_det (some 28) (.tup [], []) (by kernel_rfl) ?_
              refine l_det (some 29) (.tup [], []) (by kernel_rfl) ?_
              refine l_det (some 30) (.tup [], []) (by kernel_rfl) ?_
              refine l_det (some 31) (.one (.d (.bool true)), []) (by kernel_rfl) ?_
              refine l_det (some 32) (.one (.d (.bool true)), []) (by kernel_rfl) ?_
              refine l_det (some 33) (.tup [], []) (by kernel_rfl) ?_
              refine l_det (some 34) (.tup [], []) (by kernel_rfl) ?_
              refine l_det (some 35) (.tup [], []) (by kernel_rfl) ?_
              refine l_det (some 36) (.one (.d (.bool true)), []) (by kernel_rfl) ?_
              refine l_det (some 37) (.one (.d (.bool true)), []) (by kernel_rfl) ?_
              refine l_det (some 38) (.tup [], []) (by kernel_rfl) ?_
              refine l_det (some 39) (.tup [], []) (by kernel_rfl) ?_
              refine l_det (some 40) (.tup [], []) (by kernel_rfl) ?_
              refine l_det (some 41) (.one (.d (.bool true)), []) (by kernel_rfl) ?_
              refine l_det (some 3) (.one (.d (.bool true)), []) (by kernel_rfl) ?_
              refine l_nil ?_
              refine q_fall ?_
              exact Lab.mk true [(200001, some 1)] (by kernel_rfl) (by kernel_rfl) (by kernel_rfl) (by kernel_rfl) h
            · refine l_det (some 28) (.one (.ref 1 1 0 3), []) (by kernel_rfl) ?_
              refine l_det (some 29) (.one (.d (.int .i64 s_32.revision)), []) (by kernel_rfl) ?_
              refine l_det (some 30) (.one (.d (.bool (decide (s_32.revision > 1048576)))), []) (by kernel_rfl) ?_
              refine l_det (some 31) (.one (.d (.bool (decide (s_32.revision > 1048576)))), []) (by kernel_rfl) ?_
              refine l_det (some 32) (.one (.d (.bool (decide (s_32.revision > 1048576)))), []) (by kernel_rfl) ?_
              refine l_split (s := 32) (by kernel_rfl) h (fun h => ?_) (fun h => ?_)
              · refine l_det (some 33) (.tup [], []) (by kernel_rfl) ?_
                refine l_det (some 34) (.tup [], []) (by kernel_rfl) ?_
                refine l_det (some 35) (.tup [], []) (by kernel_rfl) ?_
                refine l_det (some 36) (.one (.d (.bool true)), []) (by kernel_rfl) ?_
                refine l_det (some 37) (.one (.d (.bool true)), []) (by kernel_rfl) ?_
                refine l_det (some 38) (.tup [], []) (by kernel_rfl) ?_
                refine l_det (some 39) (.tup [], []) (by kernel_rfl) ?_
                refine l_det (some 40) (.tup [], []) (by kernel_rfl) ?_
                refine l_det (some 41) (.one (.d (.bool true)), []) (by kernel_rfl) ?_
                refine l_det (some 3) (.one (.d (.bool true)), []) (by kernel_rfl) ?_
                refine l_nil ?_
                refine q_fall ?_
                exact Lab.mk true [(200001, some 1)] (by kernel_rfl) (by kernel_rfl) (by kernel_rfl) (by kernel_rfl) h
              · refine l_det (some 33) (.one (.ref 1 1 0 4), []) (by kernel_rfl) ?_
                refine l_det (some 34) (.one (.d (.int .i64 s_32.clock)), []) (by kernel_rfl) ?_
                refine l_det (some 35) (.one (.d (.bool (decide (s_32.clock < 1)))), []) (by kernel_rfl) ?_
                refine l_det (some 36) (.one (.d (.bool (decide (s_32.clock < 1)))), []) (by kernel_rfl) ?_
                refine l_det (some 37) (.one (.d (.bool (decide (s_32.clock < 1)))), []) (by kernel_rfl) ?_
                refine l_split (s := 37) (by kernel_rfl) h (fun h => ?_) (fun h => ?_)
                · refine l_det (some 38) (.tup [], []) (by kernel_rfl) ?_
                  refine l_det (some 39) (.tup [], []) (by kernel_rfl) ?_
                  refine l_det (some 40) (.tup [], []) (by kernel_rfl) ?_
                  refine l_det (some 41) (.one (.d (.bool true)), []) (by kernel_rfl) ?_
                  refine l_det (some 3) (.one (.d (.bool true)), []) (by kernel_rfl) ?_
                  refine l_nil ?_
                  refine q_fall ?_
                  exact Lab.mk true [(200001, some 1)] (by kernel_rfl) (by kernel_rfl) (by kernel_rfl) (by kernel_rfl) h
                · refine l_det (some 38) (.one (.ref 1 1 0 4), []) (by kernel_rfl) ?_
                  refine l_det (some 39) (.one (.d (.int .i64 s_32.clock)), []) (by kernel_rfl) ?_
                  refine l_det (some 40) (.one (.d (.bool (decide (s_32.clock > 1048576)))), []) (by kernel_rfl) ?_
                  refine l_det (some 41) (.one (.d (.bool (decide (s_32.clock > 1048576)))), []) (by kernel_rfl) ?_
                  refine l_det (some 3) (.one (.d (.bool (decide (s_32.clock > 1048576)))), []) (by kernel_rfl) ?_
                  refine l_nil ?_
                  refine q_fall ?_
                  exact Lab.mk (decide (s_32.clock > 1048576)) [(200001, some 1)] (by kernel_rfl) (by kernel_rfl) (by kernel_rfl) (by kernel_rfl) h
  · rintro v2509 h
    have h : J32_1 K s_32 v2509 := h
    unfold J32_1 at h
    refine AW.cond' (by kernel_rfl) h (fun h => ?_) (fun h => ?_)
    · refine AW.sregL [(0, none)] (by kernel_rfl) ?_
      refine l_det (some 2) (.one (.d (.int .i64 2)), []) (by kernel_rfl) ?_
      refine l_nil ?_
      refine AW.ret ?_
      refine q_bret ?_
      refine q_ret ?_
      exact q_end [.one (.d (.int .i64 2))] [false] [.one (.d (.int .i64 2))] [] [] (by kernel_rfl) ⟨by kernel_rfl, by kernel_rfl⟩ (by kernel_rfl) (by kernel_rfl) (by kernel_rfl) (by kernel_rfl) (Eq.mp (by kernel_rfl) (hK 2 h)) (.inr rfl)
    · refine AW.seqL (S := Bool) (fun s => (fun (v2510 : Bool) => [(1, .one (.ref 200001 0 0 0)), (42, .one (.d (.bool v2510)))]) s) (fun s => (fun (v2510 : Bool) => [(200001, .expl true 58 14 [[.d (.int .i64 s_32.trace), .d (.int .i64 s_32.id), .d (.int .i64 s_32.parent), .d (.int .i64 s_32.revision), .d (.int .i64 s_32.clock), .d (.int .i64 s_32.kind), .d (.str s_32.service), .d (.str s_32.version), .d (.str s_32.operation), .d (.int .i64 s_32.start), .d (.int .i64 s_32.end_), .d (.bool s_32.error), .d (.sl (List.map TAttr.enc s_32.attrs)), .d (.sl (List.map TRef.enc s_32.links))]])]) s) (fun s : Bool => J32_2 K s_32 s) ?_ ?_
      · refine AW.regL [(0, none), (1, none), (2, none), (3, none), (4, none), (5, none), (6, none), (7, none), (8, none)] (by kernel_rfl) ?_
        refine l_det (some 43) (.one (.ref 200001 0 0 5), []) (by kernel_rfl) ?_
        refine l_det (some 44) (.one (.d (.int .i64 s_32.kind)), []) (by kernel_rfl) ?_
        refine l_det (some 45) (.one (.d (.bool (decide (s_32.kind < 1)))), []) (by kernel_rfl) ?_
        refine l_det (some 46) (.one (.d (.bool (decide (s_32.kind < 1)))), []) (by kernel_rfl) ?_
        refine l_split (s := 46) (by kernel_rfl) h (fun h => ?_) (fun h => ?_)
        · refine l_det (some 47) (.tup [], []) (by kernel_rfl) ?_
          refine l_det (some 48) (.tup [], []) (by kernel_rfl) ?_
          refine l_det (some 49) (.tup [], []) (by kernel_rfl) ?_
          refine l_det (some 50) (.one (.d (.bool true)), []) (by kernel_rfl) ?_
          refine l_det (some 42) (.one (.d (.bool true)), []) (by kernel_rfl) ?_
          refine l_nil ?_
          refine q_fall ?_
          exact Lab.mk true [(200001, some 200001)] (by kernel_rfl) (by kernel_rfl) (by kernel_rfl) (by kernel_rfl) h
        · refine l_det (some 47) (.one (.ref 200001 0 0 5), []) (by kernel_rfl) ?_
          refine l_det (some 48) (.one (.d (.int .i64 s_32.kind)), []) (by kernel_rfl) ?_
          refine l_det (some 49) (.one (.d (.bool (decide (s_32.kind > 5)))), []) (by kernel_rfl) ?_
          refine l_det (some 50) (.one (.d (.bool (decide (s_32.kind > 5)))), []) (by kernel_rfl) ?_
          refine l_det (some 42) (.one (.d (.bool (decide (s_32.kind > 5)))), []) (by kernel_rfl) ?_
          refine l_nil ?_
          refine q_fall ?_
          exact Lab.mk (decide (s_32.kind > 5)) [(200001, some 200001)] (by kernel_rfl) (by kernel_rfl) (by kernel_rfl) (by kernel_rfl) h
      · rintro v2510 h
        have h : J32_2 K s_32 v2510 := h
        unfold J32_2 at h
        refine AW.cond' (by kernel_rfl) h (fun h => ?_) (fun h => ?_)
        · refine AW.sregL [(0, none)] (by kernel_rfl) ?_
          refine l_det (some 2) (.one (.d (.int .i64 12)), []) (by kernel_rfl) ?_
          refine l_nil ?_
          refine AW.ret ?_
          refine q_bret ?_
          refine q_ret ?_
          exact q_end [.one (.d (.int .i64 12))] [false] [.one (.d (.int .i64 12))] [] [] (by kernel_rfl) ⟨by kernel_rfl, by kernel_rfl⟩ (by kernel_rfl) (by kernel_rfl) (by kernel_rfl) (by kernel_rfl) (Eq.mp (by kernel_rfl) (hK 12 h)) (.inr rfl)
        · refine AW.seqL (S := Bool) (fun s => (fun (v2517 : Bool) => [(1, .one (.ref 200001 0 0 0)), (51, .one (.d (.bool v2517)))]) s) (fun s => (fun (v2517 : Bool) => [(200001, .expl true 58 14 [[.d (.int .i64 s_32.trace), .d (.int .i64 s_32.id), .d (.int .i64 s_32.parent), .d (.int .i64 s_32.revision), .d (.int .i64 s_32.clock), .d (.int .i64 s_32.kind), .d (.str s_32.service), .d (.str s_32.version), .d (.str s_32.operation), .d (.int .i64 s_32.start), .d (.int .i64 s_32.end_), .d (.bool s_32.error), .d (.sl (List.map TAttr.enc s_32.attrs)), .d (.sl (List.map TRef.enc s_32.links))]])]) s) (fun s : Bool => J32_3 K s_32 s) ?_ ?_
          · refine AW.regL [(0, none), (1, none), (2, none), (3, none), (4, none), (5, none), (6, none), (7, none), (8, none), (9, none), (10, none), (11, none), (12, none), (13, none), (14, none), (15, none), (16, none), (17, none), (18, none), (19, none), (20, none), (21, none)] (by kernel_rfl) ?_
            refine l_det (some 52) (.one (.ref 200001 0 0 6), []) (by kernel_rfl) ?_
            refine l_det (some 53) (.one (.d (.str s_32.service)), []) (by kernel_rfl) ?_
            refine l_call ok54 en54 (some 54) [.one (.d (.str s_32.service))] [false] [.one (.d (.str s_32.service))] [] (by kernel_rfl) ⟨by kernel_rfl, by kernel_rfl⟩ (by kernel_rfl) (by kernel_rfl) (by kernel_rfl) (cl54 s_32.service h) ?_
            rintro hR _ _ ⟨r2899, rfl, rfl, h⟩
            refine ⟨false, (.one (.d (.bool r2899)), []), (fun hz => (by cases hz)), (ret_R hR (by kernel_rfl)), ?_⟩
            refine l_det (some 55) (.one (.d (.bool (!r2899))), []) (by kernel_rfl) ?_
            refine l_det (some 56) (.one (.d (.bool (!r2899))), []) (by kernel_rfl) ?_
            refine l_split (s := 56) (by kernel_rfl) h (fun h => ?_) (fun h => ?_)
            · refine l_det (some 57) (.tup [], []) (by kernel_rfl) ?_
              refine l_det (some 58) (.tup [], []) (by kernel_rfl) ?_
              refine l_skip (some 59) (by kernel_rfl) (by kernel_rfl) (by kernel_rfl) ?_
              refine l_det (some 60) (.tup [], []) (by kernel_rfl) ?_
              refine l_det (some 61) (.one (.d (.bool true)), []) (by kernel_rfl) ?_
              refine l_det (some 62) (.one (.d (.bool true)), []) (by kernel_rfl) ?_
              refine l_det (some 63) (.tup [], []) (by kernel_rfl) ?_
              refine l_det (some 64) (.tup [], []) (by kernel_rfl) ?_
              refine l_det (some 65) (.tup [], []) (by kernel_rfl) ?_
              refine l_det (some 66) (.tup [], []) (by kernel_rfl) ?_
              refine l_det (some 67) (.tup [], []) (by kernel_rfl) ?_
              refine l_det (some 68) (.tup [], []) (by kernel_rfl) ?_
              refine l_skip (some 69) (by kernel_rfl) (by kernel_rfl) (by kernel_rfl) ?_
              refine l_det (some 70) (.tup [], []) (by kernel_rfl) ?_
              refine l_det (some 71) (.tup [], []) (by kernel_rfl) ?_
              refine l_det (some 72) (.one (.d (.bool true)), []) (by kernel_rfl) ?_
              refine l_det (some 51) (.one (.d (.bool true)), []) (by kernel_rfl) ?_
              refine l_nil ?_
              refine q_fall ?_
              exact Lab.mk true [(200001, some 200001)] (by kernel_rfl) (by kernel_rfl) (by kernel_rfl) (by kernel_rfl) h
            · refine l_det (some 57) (.one (.ref 200001 0 0 8), []) (by kernel_rfl) ?_
              refine l_det (some 58) (.one (.d (.str s_32.operation)), []) (by kernel_rfl) ?_
              refine l_call ok54 en54 (some 59) [.one (.d (.str s_32.operation))] [false] [.one (.d (.str s_32.operation))] [] (by kernel_rfl) ⟨by kernel_rfl, by kernel_rfl⟩ (by kernel_rfl) (by kernel_rfl) (by kernel_rfl) (cl54 s_32.operation h) ?_
              rintro hR _ _ ⟨r2900, rfl, rfl, h⟩
              refine ⟨false, (.one (.d (.bool r2900)), []), (fun hz => (by cases hz)), (ret_R hR (by kernel_rfl)), ?_⟩
              refine l_det (some 60) (.one (.d (.bool (!r2900))), []) (by kernel_rfl) ?_
              refine l_det (some 61) (.one (.d (.bool (!r2900))), []) (by kernel_rfl) ?_
              refine l_det (some 62) (.one (.d (.bool (!r2900))), []) (by kernel_rfl) ?_
              refine l_split (s := 62) (by kernel_rfl) h (fun h => ?_) (fun h => ?_)
              · refine l_det (some 63) (.tup [], []) (by kernel_rfl) ?_
                refine l_det (some 64) (.tup [], []) (by kernel_rfl) ?_
                refine l_det (some 65) (.tup [], []) (by kernel_rfl) ?_
                refine l_det (some 66) (.tup [], []) (by kernel_rfl) ?_
                refine l_det (some 67) (.tup [], []) (by kernel_rfl) ?_
                refine l_det (some 68) (.tup [], []) (by kernel_rfl) ?_
                refine l_skip (some 69) (by kernel_rfl) (by kernel_rfl) (by kernel_rfl) ?_
                refine l_det (some 70) (.tup [], []) (by kernel_rfl) ?_
                refine l_det (some 71) (.tup [], []) (by kernel_rfl) ?_
                refine l_det (some 72) (.one (.d (.bool true)), []) (by kernel_rfl) ?_
                refine l_det (some 51) (.one (.d (.bool true)), []) (by kernel_rfl) ?_
                refine l_nil ?_
                refine q_fall ?_
                exact Lab.mk true [(200001, some 200001)] (by kernel_rfl) (by kernel_rfl) (by kernel_rfl) (by kernel_rfl) h
              · refine l_det (some 63) (.one (.ref 200001 0 0 7), []) (by kernel_rfl) ?_
                refine l_det (some 64) (.one (.d (.str s_32.version)), []) (by kernel_rfl) ?_
                refine l_det (some 65) (.one (.d (.bool (decide (¬ s_32.version = (⟨#[]⟩ : ByteArray))))), []) (by kernel_rfl) ?_
                refine l_det (some 66) (.one (.d (.bool (decide (¬ s_32.version = (⟨#[]⟩ : ByteArray))))), []) (by kernel_rfl) ?_
                refine l_split (s := 66) (by kernel_rfl) h (fun h => ?_) (fun h => ?_)
                · refine l_det (some 67) (.one (.ref 200001 0 0 7), []) (by kernel_rfl) ?_
                  refine l_det (some 68) (.one (.d (.str s_32.version)), []) (by kernel_rfl) ?_
                  refine l_call ok54 en54 (some 69) [.one (.d (.str s_32.version))] [false] [.one (.d (.str s_32.version))] [] (by kernel_rfl) ⟨by kernel_rfl, by kernel_rfl⟩ (by kernel_rfl) (by kernel_rfl) (by kernel_rfl) (cl54 s_32.version h) ?_
                  rintro hR _ _ ⟨r2901, rfl, rfl, h⟩
                  refine ⟨false, (.one (.d (.bool r2901)), []), (fun hz => (by cases hz)), (ret_R hR (by kernel_rfl)), ?_⟩
                  refine l_det (some 70) (.one (.d (.bool (!r2901))), []) (by kernel_rfl) ?_
                  refine l_det (some 71) (.one (.d (.bool (!r2901))), []) (by kernel_rfl) ?_
                  refine l_det (some 72) (.one (.d (.bool (!r2901))), []) (by kernel_rfl) ?_
                  refine l_det (some 51) (.one (.d (.bool (!r2901))), []) (by kernel_rfl) ?_
                  refine l_nil ?_
                  refine q_fall ?_
                  exact Lab.mk (!r2901) [(200001, some 200001)] (by kernel_rfl) (by kernel_rfl) (by kernel_rfl) (by kernel_rfl) h
                · refine l_det (some 67) (.tup [], []) (by kernel_rfl) ?_
                  refine l_det (some 68) (.tup [], []) (by kernel_rfl) ?_
                  refine l_skip (some 69) (by kernel_rfl) (by kernel_rfl) (by kernel_rfl) ?_
                  refine l_det (some 70) (.tup [], []) (by kernel_rfl) ?_
                  refine l_det (some 71) (.one (.d (.bool false)), []) (by kernel_rfl) ?_
                  refine l_det (some 72) (.one (.d (.bool false)), []) (by kernel_rfl) ?_
                  refine l_det (some 51) (.one (.d (.bool false)), []) (by kernel_rfl) ?_
                  refine l_nil ?_
                  refine q_fall ?_
                  exact Lab.mk false [(200001, some 200001)] (by kernel_rfl) (by kernel_rfl) (by kernel_rfl) (by kernel_rfl) h
          · rintro v2517 h
            have h : J32_3 K s_32 v2517 := h
            unfold J32_3 at h
            refine AW.cond' (by kernel_rfl) h (fun h => ?_) (fun h => ?_)
            · refine AW.sregL [(0, none)] (by kernel_rfl) ?_
              refine l_det (some 2) (.one (.d (.int .i64 11)), []) (by kernel_rfl) ?_
              refine l_nil ?_
              refine AW.ret ?_
              refine q_bret ?_
              refine q_ret ?_
              exact q_end [.one (.d (.int .i64 11))] [false] [.one (.d (.int .i64 11))] [] [] (by kernel_rfl) ⟨by kernel_rfl, by kernel_rfl⟩ (by kernel_rfl) (by kernel_rfl) (by kernel_rfl) (by kernel_rfl) (Eq.mp (by kernel_rfl) (hK 11 h)) (.inr rfl)
            · refine AW.seqL (S := Bool) (fun s => (fun (v2518 : Bool) => [(1, .one (.ref 200001 0 0 0)), (73, .one (.d (.bool v2518)))]) s) (fun s => (fun (v2518 : Bool) => [(200001, .expl true 58 14 [[.d (.int .i64 s_32.trace), .d (.int .i64 s_32.id), .d (.int .i64 s_32.parent), .d (.int .i64 s_32.revision), .d (.int .i64 s_32.clock), .d (.int .i64 s_32.kind), .d (.str s_32.service), .d (.str s_32.version), .d (.str s_32.operation), .d (.int .i64 s_32.start), .d (.int .i64 s_32.end_), .d (.bool s_32.error), .d (.sl (List.map TAttr.enc s_32.attrs)), .d (.sl (List.map TRef.enc s_32.links))]])]) s) (fun s : Bool => J32_4 K s_32 s) ?_ ?_
              · refine AW.regL [(0, none), (1, none), (2, none), (3, none), (4, none), (5, none), (6, none), (7, none), (8, none), (9, none), (10, none), (11, none), (12, none), (13, none), (14, none)] (by kernel_rfl) ?_
                refine l_det (some 74) (.one (.ref 200001 0 0 9), []) (by kernel_rfl) ?_
                refine l_det (some 75) (.one (.d (.int .i64 s_32.start)), []) (by kernel_rfl) ?_
                refine l_det (some 76) (.one (.ref 200001 0 0 10), []) (by kernel_rfl) ?_
                refine l_det (some 77) (.one (.d (.int .i64 s_32.end_)), []) (by kernel_rfl) ?_
                refine l_det (some 78) (.one (.d (.int .i64 (if s_32.end_ < s_32.start then s_32.end_ else s_32.start))), []) (by kernel_rfl) ?_
                refine l_det (some 79) (.one (.d (.bool (decide ((if s_32.end_ < s_32.start then s_32.end_ else s_32.start) < (-1099511627776))))), []) (by kernel_rfl) ?_
                refine l_det (some 80) (.one (.d (.bool (decide ((if s_32.end_ < s_32.start then s_32.end_ else s_32.start) < (-1099511627776))))), []) (by kernel_rfl) ?_
                refine l_split (s := 80) (by kernel_rfl) h (fun h => ?_) (fun h => ?_)
                · refine l_det (some 81) (.tup [], []) (by kernel_rfl) ?_
                  refine l_det (some 82) (.tup [], []) (by kernel_rfl) ?_
                  refine l_det (some 83) (.tup [], []) (by kernel_rfl) ?_
                  refine l_det (some 84) (.tup [], []) (by kernel_rfl) ?_
                  refine l_det (some 85) (.tup [], []) (by kernel_rfl) ?_
                  refine l_det (some 86) (.tup [], []) (by kernel_rfl) ?_
                  refine l_det (some 87) (.one (.d (.bool true)), []) (by kernel_rfl) ?_
                  refine l_det (some 73) (.one (.d (.bool true)), []) (by kernel_rfl) ?_
                  refine l_nil ?_
                  refine q_fall ?_
                  exact Lab.mk true [(200001, some 200001)] (by kernel_rfl) (by kernel_rfl) (by kernel_rfl) (by kernel_rfl) h
                · refine l_det (some 81) (.one (.ref 200001 0 0 9), []) (by kernel_rfl) ?_
                  refine l_det (some 82) (.one (.d (.int .i64 s_32.start)), []) (by kernel_rfl) ?_
                  refine l_det (some 83) (.one (.ref 200001 0 0 10), []) (by kernel_rfl) ?_
                  refine l_det (some 84) (.one (.d (.int .i64 s_32.end_)), []) (by kernel_rfl) ?_
                  refine l_det (some 85) (.one (.d (.int .i64 (if s_32.end_ > s_32.start then s_32.end_ else s_32.start))), []) (by kernel_rfl) ?_
                  refine l_det (some 86) (.one (.d (.bool (decide ((if s_32.end_ > s_32.start then s_32.end_ else s_32.start) > 1099511627776)))), []) (by kernel_rfl) ?_
                  refine l_det (some 87) (.one (.d (.bool (decide ((if s_32.end_ > s_32.start then s_32.end_ else s_32.start) > 1099511627776)))), []) (by kernel_rfl) ?_
                  refine l_det (some 73) (.one (.d (.bool (decide ((if s_32.end_ > s_32.start then s_32.end_ else s_32.start) > 1099511627776)))), []) (by kernel_rfl) ?_
                  refine l_nil ?_
                  refine q_fall ?_
                  exact Lab.mk (decide ((if s_32.end_ > s_32.start then s_32.end_ else s_32.start) > 1099511627776)) [(200001, some 200001)] (by kernel_rfl) (by kernel_rfl) (by kernel_rfl) (by kernel_rfl) h
              · rintro v2518 h
                have h : J32_4 K s_32 v2518 := h
                unfold J32_4 at h
                refine AW.cond' (by kernel_rfl) h (fun h => ?_) (fun h => ?_)
                · refine AW.sregL [(0, none)] (by kernel_rfl) ?_
                  refine l_det (some 2) (.one (.d (.int .i64 32)), []) (by kernel_rfl) ?_
                  refine l_nil ?_
                  refine AW.ret ?_
                  refine q_bret ?_
                  refine q_ret ?_
                  exact q_end [.one (.d (.int .i64 32))] [false] [.one (.d (.int .i64 32))] [] [] (by kernel_rfl) ⟨by kernel_rfl, by kernel_rfl⟩ (by kernel_rfl) (by kernel_rfl) (by kernel_rfl) (by kernel_rfl) (Eq.mp (by kernel_rfl) (hK 32 h)) (.inr rfl)
                · refine AW.sregL [(0, none), (1, none), (2, none), (3, none), (4, none), (5, none)] (by kernel_rfl) ?_
                  refine l_det (some 89) (.one (.ref 200001 0 0 10), []) (by kernel_rfl) ?_
                  refine l_det (some 90) (.one (.d (.int .i64 s_32.end_)), []) (by kernel_rfl) ?_
                  refine l_det (some 91) (.one (.ref 200001 0 0 9), []) (by kernel_rfl) ?_
                  refine l_det (some 92) (.one (.d (.int .i64 s_32.start)), []) (by kernel_rfl) ?_
                  refine l_det (some 93) (.one (.d (.bool (decide (s_32.end_ < s_32.start)))), []) (by kernel_rfl) ?_
                  refine l_det (some 88) (.one (.d (.bool (decide (s_32.end_ < s_32.start)))), []) (by kernel_rfl) ?_
                  refine l_nil ?_
                  refine AW.cond' (by kernel_rfl) h (fun h => ?_) (fun h => ?_)
                  · refine AW.sregL [(0, none)] (by kernel_rfl) ?_
                    refine l_det (some 2) (.one (.d (.int .i64 8)), []) (by kernel_rfl) ?_
                    refine l_nil ?_
                    refine AW.ret ?_
                    refine q_bret ?_
                    refine q_ret ?_
                    exact q_end [.one (.d (.int .i64 8))] [false] [.one (.d (.int .i64 8))] [] [] (by kernel_rfl) ⟨by kernel_rfl, by kernel_rfl⟩ (by kernel_rfl) (by kernel_rfl) (by kernel_rfl) (by kernel_rfl) (Eq.mp (by kernel_rfl) (hK 8 h)) (.inr rfl)
                  · refine AW.sregL [(0, none), (1, none), (2, none), (3, none), (4, none), (5, none), (6, none)] (by kernel_rfl) ?_
                    refine l_det (some 95) (.one (.ref 200001 0 0 10), []) (by kernel_rfl) ?_
                    refine l_det (some 96) (.one (.d (.int .i64 s_32.end_)), []) (by kernel_rfl) ?_
                    refine l_det (some 97) (.one (.ref 200001 0 0 9), []) (by kernel_rfl) ?_
                    refine l_det (some 98) (.one (.d (.int .i64 s_32.start)), []) (by kernel_rfl) ?_
                    refine l_det (some 99) (.one (.d (.int .i64 (w64 (s_32.end_ - s_32.start)))), []) (by kernel_rfl) ?_
                    refine l_det (some 100) (.one (.d (.bool (decide ((w64 (s_32.end_ - s_32.start)) > 1099511627776)))), []) (by kernel_rfl) ?_
                    refine l_det (some 94) (.one (.d (.bool (decide ((w64 (s_32.end_ - s_32.start)) > 1099511627776)))), []) (by kernel_rfl) ?_
                    refine l_nil ?_
                    refine AW.cond' (by kernel_rfl) h (fun h => ?_) (fun h => ?_)
                    · refine AW.sregL [(0, none)] (by kernel_rfl) ?_
                      refine l_det (some 2) (.one (.d (.int .i64 32)), []) (by kernel_rfl) ?_
                      refine l_nil ?_
                      refine AW.ret ?_
                      refine q_bret ?_
                      refine q_ret ?_
                      exact q_end [.one (.d (.int .i64 32))] [false] [.one (.d (.int .i64 32))] [] [] (by kernel_rfl) ⟨by kernel_rfl, by kernel_rfl⟩ (by kernel_rfl) (by kernel_rfl) (by kernel_rfl) (by kernel_rfl) (Eq.mp (by kernel_rfl) (hK 32 h)) (.inr rfl)
                    · refine AW.skip ?_
                      refine q_bfall ?_
                      refine q_fall ?_
                      refine AW.sregdL follows_mixed [[], [0], [0, 1], [], [3], [0, 1, 2, 3, 4], [0, 1, 2, 3, 4, 5], [0, 1, 2, 3, 4, 5, 6], [0, 1, 2, 3, 4, 5, 6, 7]] [(0, none), (1, none), (3, none), (4, some [105, 1200001]), (2, some [103]), (5, none), (6, none), (7, none), (8, none)] (by kernel_rfl) ?_
                      refine l_det (some 101) (.one (.ref 200001 0 0 12), []) (by kernel_rfl) ?_
                      refine l_det (some 102) (.one (.d (.sl (List.map TAttr.enc s_32.attrs))), []) (by kernel_rfl) ?_
                      refine l_det (some 104) (.one (.ref 200001 0 0 13), []) (by kernel_rfl) ?_
                      refine l_det (some 105) (.one (.d (.sl (List.map TRef.enc s_32.links))), []) (by kernel_rfl) ?_
                      refine l_call ok56 en56 (some 103) [.one (.d (.sl (List.map TAttr.enc s_32.attrs)))] [false] [.one (.d (.sl (List.map TAttr.enc s_32.attrs)))] [] (by kernel_rfl) ⟨by kernel_rfl, by kernel_rfl⟩ (by kernel_rfl) (by kernel_rfl) (by kernel_rfl) (cl56 s_32.attrs h) ?_
                      rintro hR _ _ ⟨r2896, rfl, rfl, h⟩
                      refine ⟨false, (.one (.d (.int .i64 r2896)), []), (fun hz => (by cases hz)), (ret_R hR (by kernel_rfl)), ?_⟩
                      refine l_call ok57 en57 (some 106) [.one (.d (.sl (List.map TRef.enc s_32.links)))] [false] [.one (.d (.sl (List.map TRef.enc s_32.links)))] [] (by kernel_rfl) ⟨by kernel_rfl, by kernel_rfl⟩ (by kernel_rfl) (by kernel_rfl) (by kernel_rfl) (cl57 s_32.links h) ?_
                      rintro hR _ _ ⟨r2897, rfl, rfl, h⟩
                      refine ⟨false, (.one (.d (.int .i64 r2897)), []), (fun hz => (by cases hz)), (ret_R hR (by kernel_rfl)), ?_⟩
                      refine l_det (some 107) (.one (.view 107 1 0 2), [(107, 1, .row true 33 1 [[.d (.int .i64 r2896)], [.d (.int .i64 r2897)]])]) (by kernel_rfl) ?_
                      refine l_call ok55 en55 (some 108) [.one (.view 107 1 0 2)] [false] [.one (.d (.sl [[.int .i64 r2896], [.int .i64 r2897]]))] [107] (by kernel_rfl) ⟨by kernel_rfl, by kernel_rfl⟩ (by kernel_rfl) (by kernel_rfl) (by kernel_rfl) (cl55 [r2896, r2897] h) ?_
                      rintro hR _ _ ⟨r2898, rfl, rfl, h⟩
                      refine ⟨true, (.one (.d (.int .i64 r2898)), []), (fun _ => (by kernel_rfl)), (by kernel_rfl), ?_⟩
                      refine l_det (some 2) (.one (.d (.int .i64 r2898)), []) (by kernel_rfl) ?_
                      refine l_nil ?_
                      refine AW.ret ?_
                      exact q_end [.one (.d (.int .i64 r2898))] [false] [.one (.d (.int .i64 r2898))] [] [] (by kernel_rfl) ⟨by kernel_rfl, by kernel_rfl⟩ (by kernel_rfl) (by kernel_rfl) (by kernel_rfl) (by kernel_rfl) (Eq.mp (by kernel_rfl) (hK r2898 h)) (.inr rfl)
def r30_0 : List AR := [⟨some 2, .mov (.c (.int .i64 0)), [], none⟩]
def r30_1 : List AR := [⟨some 3, .mov (.c (.int .i64 0)), [], none⟩]
def r30_2 : List AR := [⟨some 9, .mov (.t 0), [], none⟩,
  ⟨some 10, .lens (.t 9), [0], none⟩,
  ⟨some 11, .mov (.c (.int .i64 0)), [], none⟩]
def r30_3 : List AR := [⟨some 12, .bin .lss (.t 11) (.t 10), [], none⟩]
def r30_4 : List AR := [⟨some 13, .mov (.t 11), [], none⟩,
  ⟨some 14, .iad 3 (.t 9) (.t 11), [], none⟩,
  ⟨some 15, .ld true 3 (.t 14), [1], none⟩,
  ⟨some 5, .alloc 53 true [.int .i64 0, .int .i64 0, .nils], [], none⟩,
  ⟨some 4, .mov (.t 13), [0, 0, 1, 2, 3], none⟩,
  ⟨none, .st 3 (.t 5) (.t 15), [3, 2, 4, 0, 1, 2, 3, 4], none⟩]
def r30_5 : List AR := [⟨some 17, .fad (.t 5) 0, [], none⟩,
  ⟨some 18, .ld false 1 (.t 17), [0], none⟩,
  ⟨some 19, .bin .lss (.t 18) (.c (.int .i64 1)), [1], none⟩,
  ⟨some 20, .mov (.t 19), [2], none⟩,
  ⟨some 21, .fad (.t 5) 0, [3], some (20, false)⟩,
  ⟨some 22, .ld false 1 (.t 21), [4, 3], some (20, false)⟩,
  ⟨some 23, .bin .gtr (.t 22) (.c (.int .i64 1099511627776)), [5, 3], some (20, false)⟩,
  ⟨some 24, .pick (.t 20) (.c (.bool true)) (.t 23), [3, 6], none⟩,
  ⟨some 25, .mov (.t 24), [7, 3], none⟩,
  ⟨some 26, .fad (.t 5) 1, [8], some (25, false)⟩,
  ⟨some 27, .ld false 1 (.t 26), [9, 8], some (25, false)⟩,
  ⟨some 28, .bin .lss (.t 27) (.c (.int .i64 1)), [10, 8], some (25, false)⟩,
  ⟨some 29, .pick (.t 25) (.c (.bool true)) (.t 28), [8, 11], none⟩,
  ⟨some 30, .mov (.t 29), [12, 8], none⟩,
  ⟨some 31, .fad (.t 5) 1, [13], some (30, false)⟩,
  ⟨some 32, .ld false 1 (.t 31), [14, 13], some (30, false)⟩,
  ⟨some 33, .bin .gtr (.t 32) (.c (.int .i64 1024)), [15, 13], some (30, false)⟩,
  ⟨some 34, .pick (.t 30) (.c (.bool true)) (.t 33), [13, 16], none⟩,
  ⟨some 16, .mov (.t 34), [17, 13], none⟩]
def r30_6 : List AR := [⟨some 2, .mov (.c (.int .i64 2)), [], none⟩]
def r30_7 : List AR := [⟨some 36, .mov (.t 4), [], none⟩,
  ⟨some 37, .bin .gtr (.t 36) (.c (.int .i64 0)), [0], none⟩,
  ⟨some 38, .mov (.t 37), [1], none⟩,
  ⟨some 39, .fad (.t 5) 0, [2], some (38, true)⟩,
  ⟨some 40, .ld false 1 (.t 39), [3, 2], some (38, true)⟩,
  ⟨some 41, .mov (.t 0), [2], some (38, true)⟩,
  ⟨some 42, .mov (.t 4), [2], some (38, true)⟩,
  ⟨some 43, .bin .sub (.t 42) (.c (.int .i64 1)), [6, 2], some (38, true)⟩,
  ⟨some 44, .iad 3 (.t 41) (.t 43), [5, 7, 2], some (38, true)⟩,
  ⟨some 45, .fad (.t 44) 0, [8, 2], some (38, true)⟩,
  ⟨some 46, .ld false 1 (.t 45), [9, 2], some (38, true)⟩,
  ⟨some 47, .bin .leq (.t 40) (.t 46), [4, 10, 2], some (38, true)⟩,
  ⟨some 48, .pick (.t 38) (.t 47) (.c (.bool false)), [2, 11], none⟩,
  ⟨some 35, .mov (.t 48), [12, 2], none⟩]
def r30_8 : List AR := [⟨some 2, .mov (.c (.int .i64 8)), [], none⟩]
def r30_9 : List AR := [⟨some 49, .fad (.t 5) 2, [], none⟩,
  ⟨some 50, .ld false 1 (.t 49), [0], none⟩,
  ⟨some 51, .lens (.t 50), [1], none⟩,
  ⟨some 52, .mov (.c (.int .i64 0)), [], none⟩]
def r30_10 : List AR := [⟨some 53, .bin .lss (.t 52) (.t 51), [], none⟩]
def r30_11 : List AR := [⟨some 54, .mov (.t 52), [], none⟩,
  ⟨some 55, .iad 14 (.t 50) (.t 52), [], none⟩,
  ⟨some 56, .ld true 14 (.t 55), [1], none⟩,
  ⟨some 7, .alloc 58 true [.int .i64 0, .int .i64 0, .int .i64 0, .int .i64 0, .int .i64 0, .int .i64 0, .str ⟨#[]⟩, .str ⟨#[]⟩, .str ⟨#[]⟩, .int .i64 0, .int .i64 0, .bool false, .nils, .nils], [], none⟩,
  ⟨some 6, .mov (.t 54), [0, 0, 1, 2, 3], none⟩,
  ⟨none, .st 14 (.t 7) (.t 56), [3, 2, 4, 0, 1, 2, 3, 4], none⟩]
def r30_12 : List AR := [⟨some 57, .ld true 14 (.t 7), [], none⟩,
  ⟨some 58, .call 32 [.t 57], [0], none⟩,
  ⟨some 8, .mov (.t 58), [1, 1, 0, 1], none⟩]
def r30_13 : List AR := [⟨some 59, .mov (.t 8), [], none⟩,
  ⟨some 60, .bin .neq (.t 59) (.c (.int .i64 0)), [0], none⟩]
def r30_14 : List AR := [⟨some 61, .mov (.t 8), [], none⟩,
  ⟨some 2, .mov (.t 61), [0, 0], none⟩]
def r30_15 : List AR := [⟨some 63, .fad (.t 7) 0, [], none⟩,
  ⟨some 64, .ld false 1 (.t 63), [0], none⟩,
  ⟨some 65, .fad (.t 5) 0, [], none⟩,
  ⟨some 66, .ld false 1 (.t 65), [2], none⟩,
  ⟨some 67, .bin .neq (.t 64) (.t 66), [1, 3], none⟩,
  ⟨some 62, .mov (.t 67), [4], none⟩]
def r30_16 : List AR := [⟨some 2, .mov (.c (.int .i64 17)), [], none⟩]
def r30_17 : List AR := [⟨some 69, .mov (.t 6), [], none⟩,
  ⟨some 70, .bin .gtr (.t 69) (.c (.int .i64 0)), [0], none⟩,
  ⟨some 71, .mov (.t 70), [1], none⟩,
  ⟨some 72, .fad (.t 7) 1, [2], some (71, true)⟩,
  ⟨some 73, .ld false 1 (.t 72), [3, 2], some (71, true)⟩,
  ⟨some 74, .fad (.t 5) 2, [2], some (71, true)⟩,
  ⟨some 75, .ld false 1 (.t 74), [5, 2], some (71, true)⟩,
  ⟨some 76, .mov (.t 6), [2], some (71, true)⟩,
  ⟨some 77, .bin .sub (.t 76) (.c (.int .i64 1)), [7, 2], some (71, true)⟩,
  ⟨some 78, .iad 14 (.t 75) (.t 77), [6, 8, 2], some (71, true)⟩,
  ⟨some 79, .fad (.t 78) 1, [9, 2], some (71, true)⟩,
  ⟨some 80, .ld false 1 (.t 79), [10, 2], some (71, true)⟩,
  ⟨some 81, .bin .leq (.t 73) (.t 80), [4, 11, 2], some (71, true)⟩,
  ⟨some 82, .pick (.t 71) (.t 81) (.c (.bool false)), [2, 12], none⟩,
  ⟨some 68, .mov (.t 82), [13, 2], none⟩]
def r30_18 : List AR := [⟨some 2, .mov (.c (.int .i64 8)), [], none⟩]
def r30_19 : List AR := [⟨some 83, .bin .add (.t 52) (.c (.int .i64 1)), [], none⟩,
  ⟨some 52, .mov (.t 83), [0], none⟩]
def r30_20 : List AR := [⟨some 84, .mov (.t 3), [], none⟩,
  ⟨some 85, .fad (.t 5) 2, [], none⟩,
  ⟨some 86, .ld false 1 (.t 85), [1], none⟩,
  ⟨some 87, .lens (.t 86), [2], none⟩,
  ⟨some 88, .bin .add (.t 84) (.t 87), [0, 3], none⟩,
  ⟨some 3, .mov (.t 88), [4, 0, 1, 2, 3, 4], none⟩]
def r30_21 : List AR := [⟨some 89, .bin .add (.t 11) (.c (.int .i64 1)), [], none⟩,
  ⟨some 11, .mov (.t 89), [0], none⟩]
def r30_22 : List AR := [⟨some 90, .mov (.t 3), [], none⟩,
  ⟨some 91, .bin .gtr (.t 90) (.c (.int .i64 4096)), [0], none⟩]
def r30_23 : List AR := [⟨some 2, .mov (.c (.int .i64 6)), [], none⟩]
def r30_24 : List AR := [⟨some 2, .mov (.c (.int .i64 0)), [], none⟩]
def c30 : ACode := .seq (.reg r30_0 false) (.seq (.reg r30_1 false) (.seq (.seq (.reg r30_2 false) (.blk 0 (.loop (.seq (.reg r30_3 false) (.seq (.cond (.t 12) (.skip) (.exit 0)) (.seq (.blk 1 (.seq (.reg r30_4 false) (.seq (.blk 2 (.seq (.reg r30_5 false) (.cond (.t 16) (.seq (.reg r30_6 false) (.ret)) (.seq (.reg r30_7 true) (.cond (.t 35) (.seq (.reg r30_8 false) (.ret)) (.skip)))))) (.seq (.seq (.reg r30_9 false) (.blk 3 (.loop (.seq (.reg r30_10 false) (.seq (.cond (.t 53) (.skip) (.exit 3)) (.seq (.blk 4 (.seq (.reg r30_11 false) (.seq (.seq (.reg r30_12 false) (.seq (.reg r30_13 false) (.cond (.t 60) (.seq (.reg r30_14 false) (.ret)) (.skip)))) (.blk 5 (.seq (.reg r30_15 false) (.cond (.t 62) (.seq (.reg r30_16 false) (.ret)) (.seq (.reg r30_17 true) (.cond (.t 68) (.seq (.reg r30_18 false) (.ret)) (.skip))))))))) (.reg r30_19 false))))))) (.reg r30_20 false))))) (.reg r30_21 false))))))) (.seq (.seq (.reg r30_22 false) (.cond (.t 91) (.seq (.reg r30_23 false) (.ret)) (.skip))) (.seq (.reg r30_24 false) (.ret)))))
theorem body30 : Try.f30.body.map (comp Try.prog 92) = some c30 := by kernel_rfl
theorem res30 : allSome (Try.f30.results.toList.map (compRes Try.prog)) = some [.s 2] := by kernel_rfl
theorem cok30 {S : FSpec} (h : ∀ args K, S args K → args.all argOk = true ∧ args.length ≤ 92 ∧ AW Try.prog 92 (some ownP) c30 (initS args) (retPost [.s 2] args K)) : COK Try.prog 30 S := of_body Try.func30 Try.ntmps30 body30 res30 h

def J30_5 (K : Int → Prop) (N4290 : Int → Prop) (v4269 : Int) (v4309 : Bool) : Prop :=
  Cond v4309 (K 8) (N4290 (w64 (v4269 + 1)))

def L30_4 (x4193 : TTrace) (K : Int → Prop) (N4071 : (Int × Int) → Prop) (v3829 : Int) (v3830 : Int) (v4269 : Int) (N4290 : Int → Prop) : Prop :=
  Cond (decide (v4269 < (x4193.spans.length : Int))) (Idx x4193.spans v4269 fun x4302 => W32 x4302 fun r4306 => Cond (decide (¬ r4306 = 0)) (K r4306) (Cond (decide (¬ x4302.trace = x4193.id)) (K 17) (Cond (decide (v4269 > 0)) (Idx x4193.spans (w64 (v4269 - 1)) fun x4310 => J30_5 K N4290 v4269 (decide (x4302.id ≤ x4310.id))) (J30_5 K N4290 v4269 false)))) (N4071 ((w64 (v3829 + (x4193.spans.length : Int))), (w64 (v3830 + 1))))

def J30_3 (K : Int → Prop) (x4193 : TTrace) (N4071 : (Int × Int) → Prop) (v3829 : Int) (v3830 : Int) (v4202 : Bool) : Prop :=
  Cond v4202 (K 8) (LoopW (fun (s : Int) N4290 => L30_4 x4193 K N4071 v3829 v3830 s N4290) 0)

def J30_2 (K : Int → Prop) (v3830 : Int) (l_30 : List TTrace) (x4193 : TTrace) (N4071 : (Int × Int) → Prop) (v3829 : Int) (v4199 : Bool) : Prop :=
  Cond v4199 (K 2) (Cond (decide (v3830 > 0)) (Idx l_30 (w64 (v3830 - 1)) fun x4311 => J30_3 K x4193 N4071 v3829 v3830 (decide (x4193.id ≤ x4311.id))) (J30_3 K x4193 N4071 v3829 v3830 false))

def L30_1 (l_30 : List TTrace) (K : Int → Prop) (v3829 : Int) (v3830 : Int) (N4071 : (Int × Int) → Prop) : Prop :=
  Cond (decide (v3830 < (l_30.length : Int))) (Idx l_30 v3830 fun x4193 => Cond (decide (x4193.id < 1)) (J30_2 K v3830 l_30 x4193 N4071 v3829 true) (Cond (decide (x4193.id > 1099511627776)) (J30_2 K v3830 l_30 x4193 N4071 v3829 true) (Cond (decide (x4193.weight < 1)) (J30_2 K v3830 l_30 x4193 N4071 v3829 true) (J30_2 K v3830 l_30 x4193 N4071 v3829 (decide (x4193.weight > 1024)))))) (Cond (decide (v3829 > 4096)) (K 6) (K 0))

/-- sleuth/estimate.Check -/
def W30 (l_30 : List TTrace) (K : Int → Prop) : Prop :=
  LoopW (fun (s : (Int × Int)) N4071 => L30_1 l_30 K s.1 s.2 N4071) (0, 0)

def S30 : FSpec := fun args K => ∃ (l_30 : List TTrace), ∃ (Kr : Int → Prop), args = [.one (.d (.sl (List.map TTrace.enc l_30)))] ∧ W30 l_30 Kr ∧ ∀ r, Kr r → K (.one (.d (.int .i64 r))) []

theorem en30 : enters Try.prog 30 = true := by unfold enters; rw [Try.func30]; rfl
theorem cl30 (l_30 : List TTrace) {Kr : Int → Prop} (h : W30 l_30 Kr) : S30 [.one (.d (.sl (List.map TTrace.enc l_30)))] (fun rv rows => ∃ r, rv = (.one (.d (.int .i64 r))) ∧ rows = [] ∧ Kr r) := ⟨l_30, Kr, rfl, h, fun r hr => ⟨r, rfl, rfl, hr⟩⟩

theorem ok30 : COK Try.prog 30 S30 := by
  refine cok30 fun args K0 hS => ?_
  obtain ⟨l_30, K, rfl, h, hK⟩ := hS
  refine ⟨by kernel_rfl, by simp, ?_⟩
  unfold W30 at h
  refine AW.sregL [(0, none)] (by kernel_rfl) ?_
  refine l_det (some 2) (.one (.d (.int .i64 0)), []) (by kernel_rfl) ?_
  refine l_nil ?_
  refine AW.sregL [(0, none)] (by kernel_rfl) ?_
  refine l_det (some 3) (.one (.d (.int .i64 0)), []) (by kernel_rfl) ?_
  refine l_nil ?_
  refine AW.seq ?_
  refine AW.sregL [(0, none), (1, none), (2, none)] (by kernel_rfl) ?_
  refine l_det (some 9) (.one (.d (.sl (List.map TTrace.enc l_30))), []) (by kernel_rfl) ?_
  refine l_spec (some 10) (.lens (.t 9)) (.one (.d (.int .i64 (l_30.length : Int))), []) (by kernel_rfl) (detA_none (d_lens_sl (enc := TTrace.enc) l_30 (by kernel_rfl))) ?_
  refine l_det (some 11) (.one (.d (.int .i64 0)), []) (by kernel_rfl) ?_
  refine l_nil ?_
  refine AW.blk ?_
  refine AW.loopL (S := (Int × Int)) (fun s => (fun (v3829 : Int) (v3830 : Int) => [(0, .one (.d (.sl (List.map TTrace.enc l_30)))), (3, .one (.d (.int .i64 v3829))), (9, .one (.d (.sl (List.map TTrace.enc l_30)))), (10, .one (.d (.int .i64 (l_30.length : Int)))), (11, .one (.d (.int .i64 v3830)))]) s.1 s.2) (fun s => (fun (v3829 : Int) (v3830 : Int) => []) s.1 s.2) (fun (s : (Int × Int)) N4071 => L30_1 l_30 K s.1 s.2 N4071) (N := fun s => LoopW (fun (s : (Int × Int)) N4071 => L30_1 l_30 K s.1 s.2 N4071) s) (Lab.mk (0, 0) [] (by kernel_rfl) (by kernel_rfl) (by kernel_rfl) (by kernel_rfl) h) (fun _ h => h) ?_
  rintro ⟨v3829, v3830⟩ N4071 h
  have h : L30_1 l_30 K v3829 v3830 N4071 := h
  unfold L30_1 at h
  refine AW.sregL [(0, none)] (by kernel_rfl) ?_
  refine l_det (some 12) (.one (.d (.bool (decide (v3830 < (l_30.length : Int))))), []) (by kernel_rfl) ?_
  refine l_nil ?_
  refine AW.seq ?_
  refine AW.cond' (by kernel_rfl) h (fun h => ?_) (fun h => ?_)
  · refine AW.skip ?_
    refine q_fall ?_
    refine AW.seq ?_
    refine AW.blk ?_
    refine AW.sregL [(0, none), (1, none), (2, none), (3, none), (4, none), (5, none)] (by kernel_rfl) ?_
    refine l_det (some 13) (.one (.d (.int .i64 v3830)), []) (by kernel_rfl) ?_
    obtain ⟨h1715, x4193, h1716, h⟩ := h
    refine l_spec (some 14) (.iad 3 (.t 9) (.t 11)) (.one (.d (.ptr [.int .i64 x4193.id, .int .i64 x4193.weight, .sl (List.map TSpan.enc x4193.spans)])), []) (by kernel_rfl) (detA_none (d_iad_sl (enc := TTrace.enc) (k := .i64) l_30 x4193 (by kernel_rfl) (by kernel_rfl) h1715 h1716 rfl)) ?_
    refine l_det (some 15) (.agg [.d (.int .i64 x4193.id), .d (.int .i64 x4193.weight), .d (.sl (List.map TSpan.enc x4193.spans))], []) (by kernel_rfl) ?_
    refine l_det (some 5) (.one (.ref 5 1 0 0), [(5, 1, .row true 53 3 [[.d (.int .i64 0), .d (.int .i64 0), .nils]])]) (by kernel_rfl) ?_
    refine l_det (some 4) (.one (.d (.int .i64 v3830)), []) (by kernel_rfl) ?_
    refine l_det none (.tup [], [(5, 1, .row true 53 3 [[.d (.int .i64 x4193.id), .d (.int .i64 x4193.weight), .d (.sl (List.map TSpan.enc x4193.spans))]])]) (by kernel_rfl) ?_
    refine l_nil ?_
    refine AW.seq ?_
    refine AW.blk ?_
    refine AW.seqL (S := Bool) (fun s => (fun (v4199 : Bool) => [(0, .one (.d (.sl (List.map TTrace.enc l_30)))), (3, .one (.d (.int .i64 v3829))), (4, .one (.d (.int .i64 v3830))), (5, .one (.ref 200001 0 0 0)), (9, .one (.d (.sl (List.map TTrace.enc l_30)))), (10, .one (.d (.int .i64 (l_30.length : Int)))), (11, .one (.d (.int .i64 v3830))), (16, .one (.d (.bool v4199)))]) s) (fun s => (fun (v4199 : Bool) => [(200001, .expl true 53 3 [[.d (.int .i64 x4193.id), .d (.int .i64 x4193.weight), .d (.sl (List.map TSpan.enc x4193.spans))]])]) s) (fun s : Bool => J30_2 K v3830 l_30 x4193 N4071 v3829 s) ?_ ?_
    · refine AW.regL [(0, none), (1, none), (2, none), (3, none), (4, none), (5, none), (6, none), (7, none), (8, none), (9, none), (10, none), (11, none), (12, none), (13, none), (14, none), (15, none), (16, none), (17, none), (18, none)] (by kernel_rfl) ?_
      refine l_det (some 17) (.one (.ref 5 1 0 0), []) (by kernel_rfl) ?_
      refine l_det (some 18) (.one (.d (.int .i64 x4193.id)), []) (by kernel_rfl) ?_
      refine l_det (some 19) (.one (.d (.bool (decide (x4193.id < 1)))), []) (by kernel_rfl) ?_
      refine l_det (some 20) (.one (.d (.bool (decide (x4193.id < 1)))), []) (by kernel_rfl) ?_
      refine l_split (s := 20) (by kernel_rfl) h (fun h => ?_) (fun h => ?_)
      · refine l_det (some 21) (.tup [], []) (by kernel_rfl) ?_
        refine l_det (some 22) (.tup [], []) (by kernel_rfl) ?_
        refine l_det (some 23) (.tup [], []) (by kernel_rfl) ?_
        refine l_det (some 24) (.one (.d (.bool true)), []) (by kernel_rfl) ?_
        refine l_det (some 25) (.one (.d (.bool true)), []) (by kernel_rfl) ?_
        refine l_det (some 26) (.tup [], []) (by kernel_rfl) ?_
        refine l_det (some 27) (.tup [], []) (by kernel_rfl) ?_
        refine l_det (some 28) (.tup [], []) (by kernel_rfl) ?_
        refine l_det (some 29) (.one (.d (.bool true)), []) (by kernel_rfl) ?_
        refine l_det (some 30) (.one (.d (.bool true)), []) (by kernel_rfl) ?_
        refine l_det (some 31) (.tup [], []) (by kernel_rfl) ?_
        refine l_det (some 32) (.tup [], []) (by kernel_rfl) ?_
        refine l_det (some 33) (.tup [], []) (by kernel_rfl) ?_
        refine l_det (some 34) (.one (.d (.bool true)), []) (by kernel_rfl) ?_
        refine l_det (some 16) (.one (.d (.bool true)), []) (by kernel_rfl) ?_
        refine l_nil ?_
        refine q_fall ?_
        exact Lab.mk true [(200001, some 5)] (by kernel_rfl) (by kernel_rfl) (by kernel_rfl) (by kernel_rfl) h
      · refine l_det (some 21) (.one (.ref 5 1 0 0), []) (by kernel_rfl) ?_
        refine l_det (some 22) (.one (.d (.int .i64 x4193.id)), []) (by kernel_rfl) ?_
        refine l_det (some 23) (.one (.d (.bool (decide (x4193.id > 1099511627776)))), []) (by kernel_rfl) ?_
        refine l_det (some 24) (.one (.d (.bool (decide (x4193.id > 1099511627776)))), []) (by kernel_rfl) ?_
        refine l_det (some 25) (.one (.d (.bool (decide (x4193.id > 1099511627776)))), []) (by kernel_rfl) ?_
        refine l_split (s := 25) (by kernel_rfl) h (fun h => ?_) (fun h => ?_)
        · refine l_det (some 26) (.tup [], []) (by kernel_rfl) ?_
          refine l_det (some 27) (.tup [], []) (by kernel_rfl) ?_
          refine l_det (some 28) (.tup [], []) (by kernel_rfl) ?_
          refine l_det (some 29) (.one (.d (.bool true)), []) (by kernel_rfl) ?_
          refine l_det (some 30) (.one (.d (.bool true)), []) (by kernel_rfl) ?_
          refine l_det (some 31) (.tup [], []) (by kernel_rfl) ?_
          refine l_det (some 32) (.tup [], []) (by kernel_rfl) ?_
          refine l_det (some 33) (.tup [], []) (by kernel_rfl) ?_
          refine l_det (some 34) (.one (.d (.bool true)), []) (by kernel_rfl) ?_
          refine l_det (some 16) (.one (.d (.bool true)), []) (by kernel_rfl) ?_
          refine l_nil ?_
          refine q_fall ?_
          exact Lab.mk true [(200001, some 5)] (by kernel_rfl) (by kernel_rfl) (by kernel_rfl) (by kernel_rfl) h
        · refine l_det (some 26) (.one (.ref 5 1 0 1), []) (by kernel_rfl) ?_
          refine l_det (some 27) (.one (.d (.int .i64 x4193.weight)), []) (by kernel_rfl) ?_
          refine l_det (some 28) (.one (.d (.bool (decide (x4193.weight < 1)))), []) (by kernel_rfl) ?_
          refine l_det (some 29) (.one (.d (.bool (decide (x4193.weight < 1)))), []) (by kernel_rfl) ?_
          refine l_det (some 30) (.one (.d (.bool (decide (x4193.weight < 1)))), []) (by kernel_rfl) ?_
          refine l_split (s := 30) (by kernel_rfl) h (fun h => ?_) (fun h => ?_)
          · refine l_det (some 31) (.tup [], []) (by kernel_rfl) ?_
            refine l_det (some 32) (.tup [], []) (by kernel_rfl) ?_
            refine l_det (some 33) (.tup [], []) (by kernel_rfl) ?_
            refine l_det (some 34) (.one (.d (.bool true)), []) (by kernel_rfl) ?_
            refine l_det (some 16) (.one (.d (.bool true)), []) (by kernel_rfl) ?_
            refine l_nil ?_
            refine q_fall ?_
            exact Lab.mk true [(200001, some 5)] (by kernel_rfl) (by kernel_rfl) (by kernel_rfl) (by kernel_rfl) h
          · refine l_det (some 31) (.one (.ref 5 1 0 1), []) (by kernel_rfl) ?_
            refine l_det (some 32) (.one (.d (.int .i64 x4193.weight)), []) (by kernel_rfl) ?_
            refine l_det (some 33) (.one (.d (.bool (decide (x4193.weight > 1024)))), []) (by kernel_rfl) ?_
            refine l_det (some 34) (.one (.d (.bool (decide (x4193.weight > 1024)))), []) (by kernel_rfl) ?_
            refine l_det (some 16) (.one (.d (.bool (decide (x4193.weight > 1024)))), []) (by kernel_rfl) ?_
            refine l_nil ?_
            refine q_fall ?_
            exact Lab.mk (decide (x4193.weight > 1024)) [(200001, some 5)] (by kernel_rfl) (by kernel_rfl) (by kernel_rfl) (by kernel_rfl) h
    · rintro v4199 h
      have h : J30_2 K v3830 l_30 x4193 N4071 v3829 v4199 := h
      unfold J30_2 at h
      refine AW.cond' (by kernel_rfl) h (fun h => ?_) (fun h => ?_)
      · refine AW.sregL [(0, none)] (by kernel_rfl) ?_
        refine l_det (some 2) (.one (.d (.int .i64 2)), []) (by kernel_rfl) ?_
        refine l_nil ?_
        refine AW.ret ?_
        refine q_bret ?_
        refine q_ret ?_
        refine q_bret ?_
        refine q_ret ?_
        refine q_ret ?_
        refine q_bret ?_
        refine q_ret ?_
        exact q_end [.one (.d (.int .i64 2))] [false] [.one (.d (.int .i64 2))] [] [] (by kernel_rfl) ⟨by kernel_rfl, by kernel_rfl⟩ (by kernel_rfl) (by kernel_rfl) (by kernel_rfl) (by kernel_rfl) (Eq.mp (by kernel_rfl) (hK 2 h)) (.inr rfl)
      · refine AW.seqL (S := Bool) (fun s => (fun (v4202 : Bool) => [(0, .one (.d (.sl (List.map TTrace.enc l_30)))), (3, .one (.d (.int .i64 v3829))), (5, .one (.ref 200001 0 0 0)), (9, .one (.d (.sl (List.map TTrace.enc l_30)))), (10, .one (.d (.int .i64 (l_30.length : Int)))), (11, .one (.d (.int .i64 v3830))), (35, .one (.d (.bool v4202)))]) s) (fun s => (fun (v4202 : Bool) => [(200001, .expl true 53 3 [[.d (.int .i64 x4193.id), .d (.int .i64 x4193.weight), .d (.sl (List.map TSpan.enc x4193.spans))]])]) s) (fun s : Bool => J30_3 K x4193 N4071 v3829 v3830 s) ?_ ?_
        · refine AW.regdL follows_mixed [[], [0], [0, 1], [0, 1, 2], [0, 1, 2, 3], [0, 1, 2], [0, 1, 2], [0, 1, 2, 6], [0, 1, 2, 5, 6, 7], [0, 1, 2, 5, 6, 7, 8], [0, 1, 2, 5, 6, 7, 8, 9], [0, 1, 2, 3, 4, 5, 6, 7, 8, 9, 10], [0, 1, 2, 3, 4, 5, 6, 7, 8, 9, 10, 11], [0, 1, 2, 3, 4, 5, 6, 7, 8, 9, 10, 11, 12]] [(0, none), (1, none), (2, none), (3, none), (4, none), (5, none), (6, none), (7, none), (8, none), (9, none), (10, none), (11, none), (12, none), (13, none)] (by kernel_rfl) ?_
          refine l_det (some 36) (.one (.d (.int .i64 v3830)), []) (by kernel_rfl) ?_
          refine l_det (some 37) (.one (.d (.bool (decide (v3830 > 0)))), []) (by kernel_rfl) ?_
          refine l_det (some 38) (.one (.d (.bool (decide (v3830 > 0)))), []) (by kernel_rfl) ?_
          refine l_split (s := 38) (by kernel_rfl) h (fun h => ?_) (fun h => ?_)
          · refine l_det (some 39) (.one (.ref 200001 0 0 0), []) (by kernel_rfl) ?_
            refine l_det (some 40) (.one (.d (.int .i64 x4193.id)), []) (by kernel_rfl) ?_
            refine l_det (some 41) (.one (.d (.sl (List.map TTrace.enc l_30))), []) (by kernel_rfl) ?_
            refine l_det (some 42) (.one (.d (.int .i64 v3830)), []) (by kernel_rfl) ?_
            refine l_det (some 43) (.one (.d (.int .i64 (w64 (v3830 - 1)))), []) (by kernel_rfl) ?_
            obtain ⟨h1871, x4311, h1872, h⟩ := h
            refine l_spec (some 44) (.iad 3 (.t 41) (.t 43)) (.one (.d (.ptr [.int .i64 x4311.id, .int .i64 x4311.weight, .sl (List.map TSpan.enc x4311.spans)])), []) (by kernel_rfl) (detA_none (d_iad_sl (enc := TTrace.enc) (k := .i64) l_30 x4311 (by kernel_rfl) (by kernel_rfl) h1871 h1872 rfl)) ?_
            refine l_det (some 45) (.one (.d (.ptr [.int .i64 x4311.id, .int .i64 x4311.weight, .sl (List.map TSpan.enc x4311.spans)])), []) (by kernel_rfl) ?_
            refine l_det (some 46) (.one (.d (.int .i64 x4311.id)), []) (by kernel_rfl) ?_
            refine l_det (some 47) (.one (.d (.bool (decide (x4193.id ≤ x4311.id)))), []) (by kernel_rfl) ?_
            refine l_det (some 48) (.one (.d (.bool (decide (x4193.id ≤ x4311.id)))), []) (by kernel_rfl) ?_
            refine l_det (some 35) (.one (.d (.bool (decide (x4193.id ≤ x4311.id)))), []) (by kernel_rfl) ?_
            refine l_nil ?_
            refine q_fall ?_
            exact Lab.mk (decide (x4193.id ≤ x4311.id)) [(200001, some 200001)] (by kernel_rfl) (by kernel_rfl) (by kernel_rfl) (by kernel_rfl) h
          · refine l_det (some 39) (.tup [], []) (by kernel_rfl) ?_
            refine l_det (some 40) (.tup [], []) (by kernel_rfl) ?_
            refine l_det (some 41) (.tup [], []) (by kernel_rfl) ?_
            refine l_det (some 42) (.tup [], []) (by kernel_rfl) ?_
            refine l_det (some 43) (.tup [], []) (by kernel_rfl) ?_
            refine l_det (some 44) (.tup [], []) (by kernel_rfl) ?_
            refine l_det (some 45) (.tup [], []) (by kernel_rfl) ?_
            refine l_det (some 46) (.tup [], []) (by kernel_rfl) ?_
            refine l_det (some 47) (.tup [], []) (by kernel_rfl) ?_
            refine l_det (some 48) (.one (.d (.bool false)), []) (by kernel_rfl) ?_
            refine l_det (some 35) (.one (.d (.bool false)), []) (by kernel_rfl) ?_
            refine l_nil ?_
            refine q_fall ?_
            exact Lab.mk false [(200001, some 200001)] (by kernel_rfl) (by kernel_rfl) (by kernel_rfl) (by kernel_rfl) h
        · rintro v4202 h
          have h : J30_3 K x4193 N4071 v3829 v3830 v4202 := h
          unfold J30_3 at h
          refine AW.cond' (by kernel_rfl) h (fun h => ?_) (fun h => ?_)
          · refine AW.sregL [(0, none)] (by kernel_rfl) ?_
            refine l_det (some 2) (.one (.d (.int .i64 8)), []) (by kernel_rfl) ?_
            refine l_nil ?_
            refine AW.ret ?_
            refine q_bret ?_
            refine q_ret ?_
            refine q_bret ?_
            refine q_ret ?_
            refine q_ret ?_
            refine q_bret ?_
            refine q_ret ?_
            exact q_end [.one (.d (.int .i64 8))] [false] [.one (.d (.int .i64 8))] [] [] (by kernel_rfl) ⟨by kernel_rfl, by kernel_rfl⟩ (by kernel_rfl) (by kernel_rfl) (by kernel_rfl) (by kernel_rfl) (Eq.mp (by kernel_rfl) (hK 8 h)) (.inr rfl)
          · refine AW.skip ?_
            refine q_bfall ?_
            refine q_fall ?_
            refine AW.seq ?_
            refine AW.sregL [(0, none), (1, none), (2, none), (3, none)] (by kernel_rfl) ?_
            refine l_det (some 49) (.one (.ref 200001 0 0 2), []) (by kernel_rfl) ?_
            refine l_det (some 50) (.one (.d (.sl (List.map TSpan.enc x4193.spans))), []) (by kernel_rfl) ?_
            refine l_spec (some 51) (.lens (.t 50)) (.one (.d (.int .i64 (x4193.spans.length : Int))), []) (by kernel_rfl) (detA_none (d_lens_sl (enc := TSpan.enc) x4193.spans (by kernel_rfl))) ?_
            refine l_det (some 52) (.one (.d (.int .i64 0)), []) (by kernel_rfl) ?_
            refine l_nil ?_
            refine AW.blk ?_
            refine AW.loopL (S := Int) (fun s => (fun (v4269 : Int) => [(0, .one (.d (.sl (List.map TTrace.enc l_30)))), (3, .one (.d (.int .i64 v3829))), (5, .one (.ref 200001 0 0 0)), (9, .one (.d (.sl (List.map TTrace.enc l_30)))), (10, .one (.d (.int .i64 (l_30.length : Int)))), (11, .one (.d (.int .i64 v3830))), (50, .one (.d (.sl (List.map TSpan.enc x4193.spans)))), (51, .one (.d (.int .i64 (x4193.spans.length : Int)))), (52, .one (.d (.int .i64 v4269)))]) s) (fun s => (fun (v4269 : Int) => [(200001, .expl true 53 3 [[.d (.int .i64 x4193.id), .d (.int .i64 x4193.weight), .d (.sl (List.map TSpan.enc x4193.spans))]])]) s) (fun (s : Int) N4290 => L30_4 x4193 K N4071 v3829 v3830 s N4290) (N := fun s => LoopW (fun (s : Int) N4290 => L30_4 x4193 K N4071 v3829 v3830 s N4290) s) (Lab.mk 0 [(200001, some 200001)] (by kernel_rfl) (by kernel_rfl) (by kernel_rfl) (by kernel_rfl) h) (fun _ h => h) ?_
            rintro v4269 N4290 h
            have h : L30_4 x4193 K N4071 v3829 v3830 v4269 N4290 := h
            unfold L30_4 at h
            refine AW.sregL [(0, none)] (by kernel_rfl) ?_
            refine l_det (some 53) (.one (.d (.bool (decide (v4269 < (x4193.spans.length : Int))))), []) (by kernel_rfl) ?_
            refine l_nil ?_
            refine AW.seq ?_
            refine AW.cond' (by kernel_rfl) h (fun h => ?_) (fun h => ?_)
            · refine AW.skip ?_
              refine q_fall ?_
              refine AW.seq ?_
              refine AW.blk ?_
              refine AW.sregL [(0, none), (1, none), (2, none), (3, none), (4, none), (5, none)] (by kernel_rfl) ?_
              refine l_det (some 54) (.one (.d (.int .i64 v4269)), []) (by kernel_rfl) ?_
              obtain ⟨h1859, x4302, h1860, h⟩ := h
              refine l_spec (some 55) (.iad 14 (.t 50) (.t 52)) (.one (.d (.ptr [.int .i64 x4302.trace, .int .i64 x4302.id, .int .i64 x4302.parent, .int .i64 x4302.revision, .int .i64 x4302.clock, .int .i64 x4302.kind, .str x4302.service, .str x4302.version, .str x4302.operation, .int .i64 x4302.start, .int .i64 x4302.end_, .bool x4302.error, .sl (List.map TAttr.enc x4302.attrs), .sl (List.map TRef.enc x4302.links)])), []) (by kernel_rfl) (detA_none (d_iad_sl (enc := TSpan.enc) (k := .i64) x4193.spans x4302 (by kernel_rfl) (by kernel_rfl) h1859 h1860 rfl)) ?_
              refine l_det (some 56) (.agg [.d (.int .i64 x4302.trace), .d (.int .i64 x4302.id), .d (.int .i64 x4302.parent), .d (.int .i64 x4302.revision), .d (.int .i64 x4302.clock), .d (.int .i64 x4302.kind), .d (.str x4302.service), .d (.str x4302.version), .d (.str x4302.operation), .d (.int .i64 x4302.start), .d (.int .i64 x4302.end_), .d (.bool x4302.error), .d (.sl (List.map TAttr.enc x4302.attrs)), .d (.sl (List.map TRef.enc x4302.links))], []) (by kernel_rfl) ?_
              refine l_det (some 7) (.one (.ref 7 1 0 0), [(7, 1, .row true 58 14 [[.d (.int .i64 0), .d (.int .i64 0), .d (.int .i64 0), .d (.int .i64 0), .d (.int .i64 0), .d (.int .i64 0), .d (.str (⟨#[]⟩ : ByteArray)), .d (.str (⟨#[]⟩ : ByteArray)), .d (.str (⟨#[]⟩ : ByteArray)), .d (.int .i64 0), .d (.int .i64 0), .d (.bool false), .nils, .nils]])]) (by kernel_rfl) ?_
              refine l_det (some 6) (.one (.d (.int .i64 v4269)), []) (by kernel_rfl) ?_
              refine l_det none (.tup [], [(7, 1, .row true 58 14 [[.d (.int .i64 x4302.trace), .d (.int .i64 x4302.id), .d (.int .i64 x4302.parent), .d (.int .i64 x4302.revision), .d (.int .i64 x4302.clock), .d (.int .i64 x4302.kind), .d (.str x4302.service), .d (.str x4302.version), .d (.str x4302.operation), .d (.int .i64 x4302.start), .d (.int .i64 x4302.end_), .d (.bool x4302.error), .d (.sl (List.map TAttr.enc x4302.attrs)), .d (.sl (List.map TRef.enc x4302.links))]])]) (by kernel_rfl) ?_
              refine l_nil ?_
              refine AW.seq ?_
              refine AW.sregL [(0, none), (1, none), (2, none)] (by kernel_rfl) ?_
              refine l_det (some 57) (.agg [.d (.int .i64 x4302.trace), .d (.int .i64 x4302.id), .d (.int .i64 x4302.parent), .d (.int .i64 x4302.revision), .d (.int .i64 x4302.clock), .d (.int .i64 x4302.kind), .d (.str x4302.service), .d (.str x4302.version), .d (.str x4302.operation), .d (.int .i64 x4302.start), .d (.int .i64 x4302.end_), .d (.bool x4302.error), .d (.sl (List.map TAttr.enc x4302.attrs)), .d (.sl (List.map TRef.enc x4302.links))], []) (by kernel_rfl) ?_
              refine l_call ok32 en32 (some 58) [.agg [.d (.int .i64 x4302.trace), .d (.int .i64 x4302.id), .d (.int .i64 x4302.parent), .d (.int .i64 x4302.revision), .d (.int .i64 x4302.clock), .d (.int .i64 x4302.kind), .d (.str x4302.service), .d (.str x4302.version), .d (.str x4302.operation), .d (.int .i64 x4302.start), .d (.int .i64 x4302.end_), .d (.bool x4302.error), .d (.sl (List.map TAttr.enc x4302.attrs)), .d (.sl (List.map TRef.enc x4302.links))]] [false] [.agg (List.map RC.d [.int .i64 x4302.trace, .int .i64 x4302.id, .int .i64 x4302.parent, .int .i64 x4302.revision, .int .i64 x4302.clock, .int .i64 x4302.kind, .str x4302.service, .str x4302.version, .str x4302.operation, .int .i64 x4302.start, .int .i64 x4302.end_, .bool x4302.error, .sl (List.map TAttr.enc x4302.attrs), .sl (List.map TRef.enc x4302.links)])] [] (by kernel_rfl) ⟨by kernel_rfl, by kernel_rfl⟩ (by kernel_rfl) (by kernel_rfl) (by kernel_rfl) (cl32 x4302 h) ?_
              rintro hR _ _ ⟨r4306, rfl, rfl, h⟩
              refine ⟨false, (.one (.d (.int .i64 r4306)), []), (fun hz => (by cases hz)), (ret_R hR (by kernel_rfl)), ?_⟩
              refine l_det (some 8) (.one (.d (.int .i64 r4306)), []) (by kernel_rfl) ?_
              refine l_nil ?_
              refine AW.sregL [(0, none), (1, none)] (by kernel_rfl) ?_
              refine l_det (some 59) (.one (.d (.int .i64 r4306)), []) (by kernel_rfl) ?_
              refine l_det (some 60) (.one (.d (.bool (decide (¬ r4306 = 0)))), []) (by kernel_rfl) ?_
              refine l_nil ?_
              refine AW.cond' (by kernel_rfl) h (fun h => ?_) (fun h => ?_)
              · refine AW.sregL [(0, none), (1, none)] (by kernel_rfl) ?_
                refine l_det (some 61) (.one (.d (.int .i64 r4306)), []) (by kernel_rfl) ?_
                refine l_det (some 2) (.one (.d (.int .i64 r4306)), []) (by kernel_rfl) ?_
                refine l_nil ?_
                refine AW.ret ?_
                refine q_ret ?_
                refine q_bret ?_
                refine q_ret ?_
                refine q_ret ?_
                refine q_bret ?_
                refine q_ret ?_
                refine q_bret ?_
                refine q_ret ?_
                refine q_ret ?_
                refine q_bret ?_
                refine q_ret ?_
                exact q_end [.one (.d (.int .i64 r4306))] [false] [.one (.d (.int .i64 r4306))] [] [] (by kernel_rfl) ⟨by kernel_rfl, by kernel_rfl⟩ (by kernel_rfl) (by kernel_rfl) (by kernel_rfl) (by kernel_rfl) (Eq.mp (by kernel_rfl) (hK r4306 h)) (.inr rfl)
              · refine AW.skip ?_
                refine q_fall ?_
                refine AW.blk ?_
                refine AW.sregL [(0, none), (1, none), (2, none), (3, none), (4, none), (5, none)] (by kernel_rfl) ?_
                refine l_det (some 63) (.one (.ref 7 1 0 0), []) (by kernel_rfl) ?_
                refine l_det (some 64) (.one (.d (.int .i64 x4302.trace)), []) (by kernel_rfl) ?_
                refine l_det (some 65) (.one (.ref 200001 0 0 0), []) (by kernel_rfl) ?_
                refine l_det (some 66) (.one (.d (.int .i64 x4193.id)), []) (by kernel_rfl) ?_
                refine l_det (some 67) (.one (.d (.bool (decide (¬ x4302.trace = x4193.id)))), []) (by kernel_rfl) ?_
                refine l_det (some 62) (.one (.d (.bool (decide (¬ x4302.trace = x4193.id)))), []) (by kernel_rfl) ?_
                refine l_nil ?_
                refine AW.cond' (by kernel_rfl) h (fun h => ?_) (fun h => ?_)
                · refine AW.sregL [(0, none)] (by kernel_rfl) ?_
                  refine l_det (some 2) (.one (.d (.int .i64 17)), []) (by kernel_rfl) ?_
                  refine l_nil ?_
                  refine AW.ret ?_
                  refine q_bret ?_
                  refine q_bret ?_
                  refine q_ret ?_
                  refine q_ret ?_
                  refine q_bret ?_
                  refine q_ret ?_
                  refine q_bret ?_
                  refine q_ret ?_
                  refine q_ret ?_
                  refine q_bret ?_
                  refine q_ret ?_
                  exact q_end [.one (.d (.int .i64 17))] [false] [.one (.d (.int .i64 17))] [] [] (by kernel_rfl) ⟨by kernel_rfl, by kernel_rfl⟩ (by kernel_rfl) (by kernel_rfl) (by kernel_rfl) (by kernel_rfl) (Eq.mp (by kernel_rfl) (hK 17 h)) (.inr rfl)
                · refine AW.seqL (S := Bool) (fun s => (fun (v4309 : Bool) => [(0, .one (.d (.sl (List.map TTrace.enc l_30)))), (3, .one (.d (.int .i64 v3829))), (5, .one (.ref 200001 0 0 0)), (9, .one (.d (.sl (List.map TTrace.enc l_30)))), (10, .one (.d (.int .i64 (l_30.length : Int)))), (11, .one (.d (.int .i64 v3830))), (50, .one (.d (.sl (List.map TSpan.enc x4193.spans)))), (51, .one (.d (.int .i64 (x4193.spans.length : Int)))), (52, .one (.d (.int .i64 v4269))), (68, .one (.d (.bool v4309)))]) s) (fun s => (fun (v4309 : Bool) => [(200001, .expl true 53 3 [[.d (.int .i64 x4193.id), .d (.int .i64 x4193.weight), .d (.sl (List.map TSpan.enc x4193.spans))]])]) s) (fun s : Bool => J30_5 K N4290 v4269 s) ?_ ?_
                  · refine AW.regdL follows_mixed [[], [0], [0, 1], [0, 1, 2], [0, 1, 2, 3], [0, 1, 2], [0, 1, 2, 5], [0, 1, 2], [0, 1, 2, 7], [0, 1, 2, 5, 6, 7, 8], [0, 1, 2, 5, 6, 7, 8, 9], [0, 1, 2, 5, 6, 7, 8, 9, 10], [0, 1, 2, 3, 4, 5, 6, 7, 8, 9, 10, 11], [0, 1, 2, 3, 4, 5, 6, 7, 8, 9, 10, 11, 12], [0, 1, 2, 3, 4, 5, 6, 7, 8, 9, 10, 11, 12, 13]] [(0, none), (1, none), (2, none), (3, none), (4, none), (5, none), (6, none), (7, none), (8, none), (9, none), (10, none), (11, none), (12, none), (13, none), (14, none)] (by kernel_rfl) ?_
                    refine l_det (some 69) (.one (.d (.int .i64 v4269)), []) (by kernel_rfl) ?_
                    refine l_det (some 70) (.one (.d (.bool (decide (v4269 > 0)))), []) (by kernel_rfl) ?_
                    refine l_det (some 71) (.one (.d (.bool (decide (v4269 > 0)))), []) (by kernel_rfl) ?_
                    refine l_split (s := 71) (by kernel_rfl) h (fun h => ?_) (fun h => ?_)
                    · refine l_det (some 72) (.one (.ref 7 1 0 1), []) (by kernel_rfl) ?_
                      refine l_det (some 73) (.one (.d (.int .i64 x4302.id)), []) (by kernel_rfl) ?_
                      refine l_det (some 74) (.one (.ref 200001 0 0 2), []) (by kernel_rfl) ?_
                      refine l_det (some 75) (.one (.d (.sl (List.map TSpan.enc x4193.spans))), []) (by kernel_rfl) ?_
                      refine l_det (some 76) (.one (.d (.int .i64 v4269)), []) (by kernel_rfl) ?_
                      refine l_det (some 77) (.one (.d (.int .i64 (w64 (v4269 - 1)))), []) (by kernel_rfl) ?_
                      obtain ⟨h1869, x4310, h1870, h⟩ := h
                      refine l_spec (some 78) (.iad 14 (.t 75) (.t 77)) (.one (.d (.ptr [.int .i64 x4310.trace, .int .i64 x4310.id, .int .i64 x4310.parent, .int .i64 x4310.revision, .int .i64 x4310.clock, .int .i64 x4310.kind, .str x4310.service, .str x4310.version, .str x4310.operation, .int .i64 x4310.start, .int .i64 x4310.end_, .bool x4310.error, .sl (List.map TAttr.enc x4310.attrs), .sl (List.map TRef.enc x4310.links)])), []) (by kernel_rfl) (detA_none (d_iad_sl (enc := TSpan.enc) (k := .i64) x4193.spans x4310 (by kernel_rfl) (by kernel_rfl) h1869 h1870 rfl)) ?_
                      refine l_det (some 79) (.one (.d (.ptr [.int .i64 x4310.id, .int .i64 x4310.parent, .int .i64 x4310.revision, .int .i64 x4310.clock, .int .i64 x4310.kind, .str x4310.service, .str x4310.version, .str x4310.operation, .int .i64 x4310.start, .int .i64 x4310.end_, .bool x4310.error, .sl (List.map TAttr.enc x4310.attrs), .sl (List.map TRef.enc x4310.links)])), []) (by kernel_rfl) ?_
                      refine l_det (some 80) (.one (.d (.int .i64 x4310.id)), []) (by kernel_rfl) ?_
                      refine l_det (some 81) (.one (.d (.bool (decide (x4302.id ≤ x4310.id)))), []) (by kernel_rfl) ?_
                      refine l_det (some 82) (.one (.d (.bool (decide (x4302.id ≤ x4310.id)))), []) (by kernel_rfl) ?_
                      refine l_det (some 68) (.one (.d (.bool (decide (x4302.id ≤ x4310.id)))), []) (by kernel_rfl) ?_
                      refine l_nil ?_
                      refine q_fall ?_
                      exact Lab.mk (decide (x4302.id ≤ x4310.id)) [(200001, some 200001)] (by kernel_rfl) (by kernel_rfl) (by kernel_rfl) (by kernel_rfl) h
                    · refine l_det (some 72) (.tup [], []) (by kernel_rfl) ?_
                      refine l_det (some 73) (.tup [], []) (by kernel_rfl) ?_
                      refine l_det (some 74) (.tup [], []) (by kernel_rfl) ?_
                      refine l_det (some 75) (.tup [], []) (by kernel_rfl) ?_
                      refine l_det (some 76) (.tup [], []) (by kernel_rfl) ?_
                      refine l_det (some 77) (.tup [], []) (by kernel_rfl) ?_
                      refine l_det (some 78) (.tup [], []) (by kernel_rfl) ?_
                      refine l_det (some 79) (.tup [], []) (by kernel_rfl) ?_
                      refine l_det (some 80) (.tup [], []) (by kernel_rfl) ?_
                      refine l_det (some 81) (.tup [], []) (by kernel_rfl) ?_
                      refine l_det (some 82) (.one (.d (.bool false)), []) (by kernel_rfl) ?_
                      refine l_det (some 68) (.one (.d (.bool false)), []) (by kernel_rfl) ?_
                      refine l_nil ?_
                      refine q_fall ?_
                      exact Lab.mk false [(200001, some 200001)] (by kernel_rfl) (by kernel_rfl) (by kernel_rfl) (by kernel_rfl) h
                  · rintro v4309 h
                    have h : J30_5 K N4290 v4269 v4309 := h
                    unfold J30_5 at h
                    refine AW.cond' (by kernel_rfl) h (fun h => ?_) (fun h => ?_)
                    · refine AW.sregL [(0, none)] (by kernel_rfl) ?_
                      refine l_det (some 2) (.one (.d (.int .i64 8)), []) (by kernel_rfl) ?_
                      refine l_nil ?_
                      refine AW.ret ?_
                      refine q_bret ?_
                      refine q_bret ?_
                      refine q_ret ?_
                      refine q_ret ?_
                      refine q_bret ?_
                      refine q_ret ?_
                      refine q_bret ?_
                      refine q_ret ?_
                      refine q_ret ?_
                      refine q_bret ?_
                      refine q_ret ?_
                      exact q_end [.one (.d (.int .i64 8))] [false] [.one (.d (.int .i64 8))] [] [] (by kernel_rfl) ⟨by kernel_rfl, by kernel_rfl⟩ (by kernel_rfl) (by kernel_rfl) (by kernel_rfl) (by kernel_rfl) (Eq.mp (by kernel_rfl) (hK 8 h)) (.inr rfl)
                    · refine AW.skip ?_
                      refine q_bfall ?_
                      refine q_bfall ?_
                      refine q_fall ?_
                      refine AW.regL [(0, none), (1, none)] (by kernel_rfl) ?_
                      refine l_det (some 83) (.one (.d (.int .i64 (w64 (v4269 + 1)))), []) (by kernel_rfl) ?_
                      refine l_det (some 52) (.one (.d (.int .i64 (w64 (v4269 + 1)))), []) (by kernel_rfl) ?_
                      refine l_nil ?_
                      refine q_fall ?_
                      exact Lab.mk (w64 (v4269 + 1)) [(200001, some 200001)] (by kernel_rfl) (by kernel_rfl) (by kernel_rfl) (by kernel_rfl) h
            · refine AW.exit ?_
              refine q_exit ?_
              refine q_exit ?_
              refine q_bhere ?_
              refine q_fall ?_
              refine AW.regL [(0, none), (1, none), (2, none), (3, none), (4, none), (5, none)] (by kernel_rfl) ?_
              refine l_det (some 84) (.one (.d (.int .i64 v3829)), []) (by kernel_rfl) ?_
              refine l_det (some 85) (.one (.ref 200001 0 0 2), []) (by kernel_rfl) ?_
              refine l_det (some 86) (.one (.d (.sl (List.map TSpan.enc x4193.spans))), []) (by kernel_rfl) ?_
              refine l_spec (some 87) (.lens (.t 86)) (.one (.d (.int .i64 (x4193.spans.length : Int))), []) (by kernel_rfl) (detA_none (d_lens_sl (enc := TSpan.enc) x4193.spans (by kernel_rfl))) ?_
              refine l_det (some 88) (.one (.d (.int .i64 (w64 (v3829 + (x4193.spans.length : Int))))), []) (by kernel_rfl) ?_
              refine l_det (some 3) (.one (.d (.int .i64 (w64 (v3829 + (x4193.spans.length : Int))))), []) (by kernel_rfl) ?_
              refine l_nil ?_
              refine q_bfall ?_
              refine q_fall ?_
              refine AW.regL [(0, none), (1, none)] (by kernel_rfl) ?_
              refine l_det (some 89) (.one (.d (.int .i64 (w64 (v3830 + 1)))), []) (by kernel_rfl) ?_
              refine l_det (some 11) (.one (.d (.int .i64 (w64 (v3830 + 1)))), []) (by kernel_rfl) ?_
              refine l_nil ?_
              refine q_fall ?_
              exact Lab.mk ((w64 (v3829 + (x4193.spans.length : Int))), (w64 (v3830 + 1))) [] (by kernel_rfl) (by kernel_rfl) (by kernel_rfl) (by kernel_rfl) h
  · refine AW.exit ?_
    refine q_exit ?_
    refine q_exit ?_
    refine q_bhere ?_
    refine q_fall ?_
    refine AW.seq ?_
    refine AW.sregL [(0, none), (1, none)] (by kernel_rfl) ?_
    refine l_det (some 90) (.one (.d (.int .i64 v3829)), []) (by kernel_rfl) ?_
    refine l_det (some 91) (.one (.d (.bool (decide (v3829 > 4096)))), []) (by kernel_rfl) ?_
    refine l_nil ?_
    refine AW.cond' (by kernel_rfl) h (fun h => ?_) (fun h => ?_)
    · refine AW.sregL [(0, none)] (by kernel_rfl) ?_
      refine l_det (some 2) (.one (.d (.int .i64 6)), []) (by kernel_rfl) ?_
      refine l_nil ?_
      refine AW.ret ?_
      refine q_ret ?_
      exact q_end [.one (.d (.int .i64 6))] [false] [.one (.d (.int .i64 6))] [] [] (by kernel_rfl) ⟨by kernel_rfl, by kernel_rfl⟩ (by kernel_rfl) (by kernel_rfl) (by kernel_rfl) (by kernel_rfl) (Eq.mp (by kernel_rfl) (hK 6 h)) (.inr rfl)
    · refine AW.skip ?_
      refine q_fall ?_
      refine AW.sregL [(0, none)] (by kernel_rfl) ?_
      refine l_det (some 2) (.one (.d (.int .i64 0)), []) (by kernel_rfl) ?_
      refine l_nil ?_
      refine AW.ret ?_
      exact q_end [.one (.d (.int .i64 0))] [false] [.one (.d (.int .i64 0))] [] [] (by kernel_rfl) ⟨by kernel_rfl, by kernel_rfl⟩ (by kernel_rfl) (by kernel_rfl) (by kernel_rfl) (by kernel_rfl) (Eq.mp (by kernel_rfl) (hK 0 h)) (.inr rfl)
def r10_0 : List AR := [⟨some 6, .mov (.c (.bool false)), [], none⟩]
def r10_1 : List AR := [⟨some 13, .call 12 [], [], none⟩,
  ⟨some 14, .un .not (.t 13), [0], none⟩,
  ⟨some 15, .mov (.t 14), [1, 0], none⟩,
  ⟨some 16, .mov (.t 0), [2], some (15, false)⟩,
  ⟨some 17, .lent (.t 16), [3, 2], some (15, false)⟩,
  ⟨some 18, .bin .gtr (.t 17) (.c (.int .i64 100)), [4, 2], some (15, false)⟩,
  ⟨some 19, .pick (.t 15) (.c (.bool true)) (.t 18), [2, 5], none⟩,
  ⟨some 20, .mov (.t 19), [6, 2], none⟩,
  ⟨some 21, .mov (.t 1), [7], some (20, false)⟩,
  ⟨some 22, .lent (.t 21), [8, 7], some (20, false)⟩,
  ⟨some 23, .bin .gtr (.t 22) (.c (.int .i64 100)), [9, 7], some (20, false)⟩,
  ⟨some 24, .pick (.t 20) (.c (.bool true)) (.t 23), [7, 10], none⟩,
  ⟨some 25, .mov (.t 24), [11, 7], none⟩,
  ⟨some 26, .mov (.t 2), [12], some (25, false)⟩,
  ⟨some 27, .lent (.t 26), [13, 12], some (25, false)⟩,
  ⟨some 28, .bin .gtr (.t 27) (.c (.int .i64 100)), [14, 12], some (25, false)⟩,
  ⟨some 29, .pick (.t 25) (.c (.bool true)) (.t 28), [12, 15], none⟩]
def r10_2 : List AR := [⟨some 30, .call 12 [], [], none⟩,
  ⟨some 6, .mov (.t 30), [0, 0, 0], none⟩]
def r10_3 : List AR := [⟨some 31, .bld [.int .i64 0, .int .i64 0, .nils] [(0, 1, .c (.int .i64 9)), (1, 1, .c (.int .i64 1))], [], none⟩,
  ⟨some 7, .alloc 53 true [.int .i64 0, .int .i64 0, .nils], [], none⟩,
  ⟨none, .st 3 (.t 7) (.t 31), [1, 0, 0, 1], none⟩]
def r10_4 : List AR := [⟨some 32, .mov (.t 0), [], none⟩,
  ⟨some 33, .mov (.t 1), [], none⟩,
  ⟨some 34, .mov (.t 2), [], none⟩,
  ⟨some 35, .bld [.int .i64 0, .int .i64 0, .int .i64 0, .int .i64 0, .int .i64 0, .int .i64 0, .str ⟨#[]⟩, .str ⟨#[]⟩, .str ⟨#[]⟩, .int .i64 0, .int .i64 0, .bool false, .nils, .nils] [(0, 1, .c (.int .i64 9)), (4, 1, .c (.int .i64 1)), (5, 1, .c (.int .i64 3)), (6, 1, .t 32), (7, 1, .t 33), (8, 1, .t 34)], [0, 1, 2], none⟩,
  ⟨some 8, .alloc 58 true [.int .i64 0, .int .i64 0, .int .i64 0, .int .i64 0, .int .i64 0, .int .i64 0, .str ⟨#[]⟩, .str ⟨#[]⟩, .str ⟨#[]⟩, .int .i64 0, .int .i64 0, .bool false, .nils, .nils], [], none⟩,
  ⟨none, .st 14 (.t 8) (.t 35), [4, 3, 0, 1, 2, 3, 4], none⟩]
def r10_5 : List AR := [⟨some 9, .mov (.c (.int .i64 1)), [], none⟩]
def r10_6 : List AR := [⟨some 36, .mov (.t 9), [], none⟩,
  ⟨some 37, .bin .leq (.t 36) (.c (.int .i64 4096)), [0], none⟩]
def r10_7 : List AR := [⟨some 40, .mov (.t 9), [], none⟩,
  ⟨some 41, .fad (.t 8) 1, [0], none⟩,
  ⟨none, .st 1 (.t 41) (.t 40), [1, 0, 0], none⟩]
def r10_8 : List AR := [⟨some 42, .fad (.t 7) 2, [], none⟩,
  ⟨some 43, .ld false 1 (.t 42), [0], none⟩,
  ⟨some 44, .ld true 14 (.t 8), [], none⟩,
  ⟨some 45, .bsl 58 14 1 [.int .i64 0, .int .i64 0, .int .i64 0, .int .i64 0, .int .i64 0, .int .i64 0, .str ⟨#[]⟩, .str ⟨#[]⟩, .str ⟨#[]⟩, .int .i64 0, .int .i64 0, .bool false, .nils, .nils] [(0, .t 44)], [2], none⟩,
  ⟨some 46, .app 58 14 168 [.int .i64 0, .int .i64 0, .int .i64 0, .int .i64 0, .int .i64 0, .int .i64 0, .str ⟨#[]⟩, .str ⟨#[]⟩, .str ⟨#[]⟩, .int .i64 0, .int .i64 0, .bool false, .nils, .nils] (.t 43) (.t 45), [1, 3], none⟩,
  ⟨some 47, .fad (.t 7) 2, [0, 1, 2, 3, 4], none⟩,
  ⟨none, .st 1 (.t 47) (.t 46), [5, 4, 4, 0, 1, 2, 3, 4], none⟩]
def r10_9 : List AR := [⟨some 38, .mov (.t 9), [], none⟩,
  ⟨some 39, .bin .add (.t 38) (.c (.int .i64 1)), [0], none⟩,
  ⟨some 9, .mov (.t 39), [1, 0, 1], none⟩]
def r10_10 : List AR := [⟨some 48, .ld true 3 (.t 7), [], none⟩,
  ⟨some 49, .bsl 53 3 1 [.int .i64 0, .int .i64 0, .nils] [(0, .t 48)], [0], none⟩,
  ⟨some 50, .call 30 [.t 49], [1], none⟩,
  ⟨some 10, .mov (.t 50), [2, 2, 0, 1, 2], none⟩]
def r10_11 : List AR := [⟨some 51, .fad (.t 8) 1, [], none⟩,
  ⟨none, .st 1 (.t 51) (.c (.int .i64 4097)), [0], none⟩]
def r10_12 : List AR := [⟨some 52, .fad (.t 7) 2, [], none⟩,
  ⟨some 53, .ld false 1 (.t 52), [0], none⟩,
  ⟨some 54, .ld true 14 (.t 8), [], none⟩,
  ⟨some 55, .bsl 58 14 1 [.int .i64 0, .int .i64 0, .int .i64 0, .int .i64 0, .int .i64 0, .int .i64 0, .str ⟨#[]⟩, .str ⟨#[]⟩, .str ⟨#[]⟩, .int .i64 0, .int .i64 0, .bool false, .nils, .nils] [(0, .t 54)], [2], none⟩,
  ⟨some 56, .app 58 14 168 [.int .i64 0, .int .i64 0, .int .i64 0, .int .i64 0, .int .i64 0, .int .i64 0, .str ⟨#[]⟩, .str ⟨#[]⟩, .str ⟨#[]⟩, .int .i64 0, .int .i64 0, .bool false, .nils, .nils] (.t 53) (.t 55), [1, 3], none⟩,
  ⟨some 57, .fad (.t 7) 2, [0, 1, 2, 3, 4], none⟩,
  ⟨none, .st 1 (.t 57) (.t 56), [5, 4, 4, 0, 1, 2, 3, 4], none⟩]
def r10_13 : List AR := [⟨some 58, .ld true 3 (.t 7), [], none⟩,
  ⟨some 59, .bsl 53 3 1 [.int .i64 0, .int .i64 0, .nils] [(0, .t 58)], [0], none⟩,
  ⟨some 60, .call 30 [.t 59], [1], none⟩,
  ⟨some 11, .mov (.t 60), [2, 2, 0, 1, 2], none⟩]
def r10_14 : List AR := [⟨some 61, .ld true 14 (.t 8), [], none⟩,
  ⟨some 62, .call 32 [.t 61], [0], none⟩,
  ⟨some 12, .mov (.t 62), [1, 1, 0, 1], none⟩]
def r10_15 : List AR := [⟨some 63, .mov (.t 10), [], none⟩,
  ⟨some 64, .mov (.t 12), [], none⟩,
  ⟨some 65, .bin .eql (.t 63) (.t 64), [0, 1], none⟩,
  ⟨some 66, .mov (.t 65), [2], none⟩,
  ⟨some 67, .mov (.t 11), [3], some (66, true)⟩,
  ⟨some 68, .mov (.t 12), [3], some (66, true)⟩,
  ⟨some 69, .bin .eql (.t 67) (.t 68), [4, 5, 3], some (66, true)⟩,
  ⟨some 70, .mov (.t 69), [6, 3, 3], some (66, true)⟩,
  ⟨some 71, .mov (.t 12), [7], some (70, true)⟩,
  ⟨some 72, .bin .neq (.t 71) (.c (.int .i64 0)), [8, 7], some (70, true)⟩,
  ⟨some 73, .pick (.t 70) (.t 72) (.c (.bool false)), [7, 9, 3], some (66, true)⟩,
  ⟨some 74, .mov (.t 73), [10, 7, 3], some (66, true)⟩,
  ⟨some 75, .mov (.t 11), [11], some (74, false)⟩,
  ⟨some 76, .bin .eql (.t 75) (.c (.int .i64 6)), [12, 11], some (74, false)⟩,
  ⟨some 77, .mov (.t 76), [13, 11, 11], some (74, false)⟩,
  ⟨some 78, .mov (.t 12), [14], some (77, true)⟩,
  ⟨some 79, .bin .eql (.t 78) (.c (.int .i64 0)), [15, 14], some (77, true)⟩,
  ⟨some 80, .pick (.t 77) (.t 79) (.c (.bool false)), [14, 16, 11], some (74, false)⟩,
  ⟨some 81, .pick (.t 74) (.c (.bool true)) (.t 80), [11, 17, 3], some (66, true)⟩,
  ⟨some 82, .pick (.t 66) (.t 81) (.c (.bool false)), [3, 18], none⟩,
  ⟨some 6, .mov (.t 82), [19, 14, 0, 1, 2, 3, 4, 5, 6, 7, 8, 9, 10, 11, 12, 13, 14, 15, 16, 17, 18, 19], none⟩]
def c10 : ACode := .seq (.reg r10_0 false) (.seq (.seq (.reg r10_1 false) (.cond (.t 29) (.seq (.reg r10_2 false) (.ret)) (.skip))) (.seq (.reg r10_3 false) (.seq (.reg r10_4 false) (.seq (.seq (.reg r10_5 false) (.blk 0 (.loop (.seq (.seq (.reg r10_6 false) (.cond (.t 37) (.skip) (.exit 0))) (.seq (.blk 1 (.seq (.reg r10_7 false) (.reg r10_8 false))) (.reg r10_9 false)))))) (.seq (.reg r10_10 false) (.seq (.reg r10_11 false) (.seq (.reg r10_12 false) (.seq (.reg r10_13 false) (.seq (.reg r10_14 false) (.seq (.reg r10_15 false) (.ret)))))))))))
theorem body10 : Try.f10.body.map (comp Try.prog 83) = some c10 := by kernel_rfl
theorem res10 : allSome (Try.f10.results.toList.map (compRes Try.prog)) = some [.s 6] := by kernel_rfl
theorem cok10 {S : FSpec} (h : ∀ args K, S args K → args.all argOk = true ∧ args.length ≤ 83 ∧ AW Try.prog 83 (some ownP) c10 (initS args) (retPost [.s 6] args K)) : COK Try.prog 10 S := of_body Try.func10 Try.ntmps10 body10 res10 h

def J10_3 (K : Bool → Prop) (v4318 : Bool) : Prop :=
  K v4318

def L10_2 (service_10 : ByteArray) (version_10 : ByteArray) (operation_10 : ByteArray) (K : Bool → Prop) (v2383 : List TSpan) (v2384 : Int) (v2385 : Int) (N2386 : ((List TSpan) × Int × Int) → Prop) : Prop :=
  Cond (decide (v2385 ≤ 4096)) (Fits ((v2383 ++ [(TSpan.mk 9 v2385 0 0 1 3 service_10 version_10 operation_10 0 0 false [] [])]).length * 168) (N2386 ((v2383 ++ [(TSpan.mk 9 v2385 0 0 1 3 service_10 version_10 operation_10 0 0 false [] [])]), v2385, (w64 (v2385 + 1))))) (W30 [(TTrace.mk 9 1 v2383)] fun r4313 => Fits ((v2383 ++ [(TSpan.mk 9 4097 0 0 1 3 service_10 version_10 operation_10 0 0 false [] [])]).length * 168) (W30 [(TTrace.mk 9 1 (v2383 ++ [(TSpan.mk 9 4097 0 0 1 3 service_10 version_10 operation_10 0 0 false [] [])]))] fun r4315 => W32 (TSpan.mk 9 4097 0 0 1 3 service_10 version_10 operation_10 0 0 false [] []) fun r4317 => Cond (decide (r4313 = r4317)) (Cond (decide (r4315 = r4317)) (Cond (decide (¬ r4317 = 0)) (J10_3 K true) (Cond (decide (r4315 = 6)) (J10_3 K (decide (r4317 = 0))) (J10_3 K false))) (Cond (decide (r4315 = 6)) (J10_3 K (decide (r4317 = 0))) (J10_3 K false))) (J10_3 K false)))

def J10_1 (K : Bool → Prop) (service_10 : ByteArray) (version_10 : ByteArray) (operation_10 : ByteArray) (v2376 : Bool) : Prop :=
  Cond v2376 (W12  fun r2378 => K r2378) (LoopW (fun (s : ((List TSpan) × Int × Int)) N2386 => L10_2 service_10 version_10 operation_10 K s.1 s.2.1 s.2.2 N2386) ([], 0, 1))

/-- sleuth/sleuthlaw25.EstimateLimits -/
def W10 (service_10 : ByteArray) (version_10 : ByteArray) (operation_10 : ByteArray) (K : Bool → Prop) : Prop :=
  W12  fun r4319 => Cond (!r4319) (J10_1 K service_10 version_10 operation_10 true) (Cond (decide ((service_10.size : Int) > 100)) (J10_1 K service_10 version_10 operation_10 true) (Cond (decide ((version_10.size : Int) > 100)) (J10_1 K service_10 version_10 operation_10 true) (J10_1 K service_10 version_10 operation_10 (decide ((operation_10.size : Int) > 100)))))

def S10 : FSpec := fun args K => ∃ (service_10 : ByteArray), ∃ (version_10 : ByteArray), ∃ (operation_10 : ByteArray), ∃ (Kr : Bool → Prop), args = [.one (.d (.str service_10)), .one (.d (.str version_10)), .one (.d (.str operation_10))] ∧ W10 service_10 version_10 operation_10 Kr ∧ ∀ r, Kr r → K (.one (.d (.bool r))) []

theorem en10 : enters Try.prog 10 = true := by unfold enters; rw [Try.func10]; rfl
theorem cl10 (service_10 : ByteArray) (version_10 : ByteArray) (operation_10 : ByteArray) {Kr : Bool → Prop} (h : W10 service_10 version_10 operation_10 Kr) : S10 [.one (.d (.str service_10)), .one (.d (.str version_10)), .one (.d (.str operation_10))] (fun rv rows => ∃ r, rv = (.one (.d (.bool r))) ∧ rows = [] ∧ Kr r) := ⟨service_10, version_10, operation_10, Kr, rfl, h, fun r hr => ⟨r, rfl, rfl, hr⟩⟩

theorem ok10 : COK Try.prog 10 S10 := by
  refine cok10 fun args K0 hS => ?_
  obtain ⟨service_10, version_10, operation_10, K, rfl, h, hK⟩ := hS
  refine ⟨by kernel_rfl, by simp, ?_⟩
  unfold W10 at h
  refine AW.sregL [(0, none)] (by kernel_rfl) ?_
  refine l_det (some 6) (.one (.d (.bool false)), []) (by kernel_rfl) ?_
  refine l_nil ?_
  refine AW.seq ?_
  refine AW.seqL (S := Bool) (fun s => (fun (v2376 : Bool) => [(0, .one (.d (.str service_10))), (1, .one (.d (.str version_10))), (2, .one (.d (.str operation_10))), (29, .one (.d (.bool v2376)))]) s) (fun s => (fun (v2376 : Bool) => []) s) (fun s : Bool => J10_1 K service_10 version_10 operation_10 s) ?_ ?_
  · refine AW.regL [(0, none), (1, none), (2, none), (3, none), (4, none), (5, none), (6, none), (7, none), (8, none), (9, none), (10, none), (11, none), (12, none), (13, none), (14, none), (15, none), (16, none)] (by kernel_rfl) ?_
    refine l_call ok12 en12 (some 13) [] [] [] [] (by kernel_rfl) ⟨by kernel_rfl, by kernel_rfl⟩ (by kernel_rfl) (by kernel_rfl) (by kernel_rfl) (cl12  h) ?_
    rintro hR _ _ ⟨r4319, rfl, rfl, h⟩
    refine ⟨false, (.one (.d (.bool r4319)), []), (fun hz => (by cases hz)), (ret_R hR (by kernel_rfl)), ?_⟩
    refine l_det (some 14) (.one (.d (.bool (!r4319))), []) (by kernel_rfl) ?_
    refine l_det (some 15) (.one (.d (.bool (!r4319))), []) (by kernel_rfl) ?_
    refine l_split (s := 15) (by kernel_rfl) h (fun h => ?_) (fun h => ?_)
    · refine l_det (some 16) (.tup [], []) (by kernel_rfl) ?_
      refine l_det (some 17) (.tup [], []) (by kernel_rfl) ?_
      refine l_det (some 18) (.tup [], []) (by kernel_rfl) ?_
      refine l_det (some 19) (.one (.d (.bool true)), []) (by kernel_rfl) ?_
      refine l_det (some 20) (.one (.d (.bool true)), []) (by kernel_rfl) ?_
      refine l_det (some 21) (.tup [], []) (by kernel_rfl) ?_
      refine l_det (some 22) (.tup [], []) (by kernel_rfl) ?_
      refine l_det (some 23) (.tup [], []) (by kernel_rfl) ?_
      refine l_det (some 24) (.one (.d (.bool true)), []) (by kernel_rfl) ?_
      refine l_det (some 25) (.one (.d (.bool true)), []) (by kernel_rfl) ?_
      refine l_det (some 26) (.tup [], []) (by kernel_rfl) ?_
      refine l_det (some 27) (.tup [], []) (by kernel_rfl) ?_
      refine l_det (some 28) (.tup [], []) (by kernel_rfl) ?_
      refine l_det (some 29) (.one (.d (.bool true)), []) (by kernel_rfl) ?_
      refine l_nil ?_
      refine q_fall ?_
      exact Lab.mk true [] (by kernel_rfl) (by kernel_rfl) (by kernel_rfl) (by kernel_rfl) h
    · refine l_det (some 16) (.one (.d (.str service_10)), []) (by kernel_rfl) ?_
      refine l_det (some 17) (.one (.d (.int .i64 (service_10.size : Int))), []) (by kernel_rfl) ?_
      refine l_det (some 18) (.one (.d (.bool (decide ((service_10.size : Int) > 100)))), []) (by kernel_rfl) ?_
      refine l_det (some 19) (.one (.d (.bool (decide ((service_10.size : Int) > 100)))), []) (by kernel_rfl) ?_
      refine l_det (some 20) (.one (.d (.bool (decide ((service_10.size : Int) > 100)))), []) (by kernel_rfl) ?_
      refine l_split (s := 20) (by kernel_rfl) h (fun h => ?_) (fun h => ?_)
      · refine l_det (some 21) (.tup [], []) (by kernel_rfl) ?_
        refine l_det (some 22) (.tup [], []) (by kernel_rfl) ?_
        refine l_det (some 23) (.tup [], []) (by kernel_rfl) ?_
        refine l_det (some 24) (.one (.d (.bool true)), []) (by kernel_rfl) ?_
        refine l_det (some 25) (.one (.d (.bool true)), []) (by kernel_rfl) ?_
        refine l_det (some 26) (.tup [], []) (by kernel_rfl) ?_
        refine l_det (some 27) (.tup [], []) (by kernel_rfl) ?_
        refine l_det (some 28) (.tup [], []) (by kernel_rfl) ?_
        refine l_det (some 29) (.one (.d (.bool true)), []) (by kernel_rfl) ?_
        refine l_nil ?_
        refine q_fall ?_
        exact Lab.mk true [] (by kernel_rfl) (by kernel_rfl) (by kernel_rfl) (by kernel_rfl) h
      · refine l_det (some 21) (.one (.d (.str version_10)), []) (by kernel_rfl) ?_
        refine l_det (some 22) (.one (.d (.int .i64 (version_10.size : Int))), []) (by kernel_rfl) ?_
        refine l_det (some 23) (.one (.d (.bool (decide ((version_10.size : Int) > 100)))), []) (by kernel_rfl) ?_
        refine l_det (some 24) (.one (.d (.bool (decide ((version_10.size : Int) > 100)))), []) (by kernel_rfl) ?_
        refine l_det (some 25) (.one (.d (.bool (decide ((version_10.size : Int) > 100)))), []) (by kernel_rfl) ?_
        refine l_split (s := 25) (by kernel_rfl) h (fun h => ?_) (fun h => ?_)
        · refine l_det (some 26) (.tup [], []) (by kernel_rfl) ?_
          refine l_det (some 27) (.tup [], []) (by kernel_rfl) ?_
          refine l_det (some 28) (.tup [], []) (by kernel_rfl) ?_
          refine l_det (some 29) (.one (.d (.bool true)), []) (by kernel_rfl) ?_
          refine l_nil ?_
          refine q_fall ?_
          exact Lab.mk true [] (by kernel_rfl) (by kernel_rfl) (by kernel_rfl) (by kernel_rfl) h
        · refine l_det (some 26) (.one (.d (.str operation_10)), []) (by kernel_rfl) ?_
          refine l_det (some 27) (.one (.d (.int .i64 (operation_10.size : Int))), []) (by kernel_rfl) ?_
          refine l_det (some 28) (.one (.d (.bool (decide ((operation_10.size : Int) > 100)))), []) (by kernel_rfl) ?_
          refine l_det (some 29) (.one (.d (.bool (decide ((operation_10.size : Int) > 100)))), []) (by kernel_rfl) ?_
          refine l_nil ?_
          refine q_fall ?_
          exact Lab.mk (decide ((operation_10.size : Int) > 100)) [] (by kernel_rfl) (by kernel_rfl) (by kernel_rfl) (by kernel_rfl) h
  · rintro v2376 h
    have h : J10_1 K service_10 version_10 operation_10 v2376 := h
    unfold J10_1 at h
    refine AW.cond' (by kernel_rfl) h (fun h => ?_) (fun h => ?_)
    · refine AW.sregL [(0, none), (1, none)] (by kernel_rfl) ?_
      refine l_call ok12 en12 (some 30) [] [] [] [] (by kernel_rfl) ⟨by kernel_rfl, by kernel_rfl⟩ (by kernel_rfl) (by kernel_rfl) (by kernel_rfl) (cl12  h) ?_
      rintro hR _ _ ⟨r2378, rfl, rfl, h⟩
      refine ⟨false, (.one (.d (.bool r2378)), []), (fun hz => (by cases hz)), (ret_R hR (by kernel_rfl)), ?_⟩
      refine l_det (some 6) (.one (.d (.bool r2378)), []) (by kernel_rfl) ?_
      refine l_nil ?_
      refine AW.ret ?_
      refine q_ret ?_
      exact q_end [.one (.d (.bool r2378))] [false] [.one (.d (.bool r2378))] [] [] (by kernel_rfl) ⟨by kernel_rfl, by kernel_rfl⟩ (by kernel_rfl) (by kernel_rfl) (by kernel_rfl) (by kernel_rfl) (Eq.mp (by kernel_rfl) (hK r2378 h)) (.inr rfl)
    · refine AW.skip ?_
      refine q_fall ?_
      refine AW.sregL [(0, none), (1, none), (2, none)] (by kernel_rfl) ?_
      refine l_det (some 31) (.agg [.d (.int .i64 9), .d (.int .i64 1), .nils], []) (by kernel_rfl) ?_
      refine l_det (some 7) (.one (.ref 7 1 0 0), [(7, 1, .row true 53 3 [[.d (.int .i64 0), .d (.int .i64 0), .nils]])]) (by kernel_rfl) ?_
      refine l_det none (.tup [], [(7, 1, .row true 53 3 [[.d (.int .i64 9), .d (.int .i64 1), .nils]])]) (by kernel_rfl) ?_
      refine l_nil ?_
      refine AW.sregL [(0, none), (1, none), (2, none), (3, none), (4, none), (5, none)] (by kernel_rfl) ?_
      refine l_det (some 32) (.one (.d (.str service_10)), []) (by kernel_rfl) ?_
      refine l_det (some 33) (.one (.d (.str version_10)), []) (by kernel_rfl) ?_
      refine l_det (some 34) (.one (.d (.str operation_10)), []) (by kernel_rfl) ?_
      refine l_det (some 35) (.agg [.d (.int .i64 9), .d (.int .i64 0), .d (.int .i64 0), .d (.int .i64 0), .d (.int .i64 1), .d (.int .i64 3), .d (.str service_10), .d (.str version_10), .d (.str operation_10), .d (.int .i64 0), .d (.int .i64 0), .d (.bool false), .nils, .nils], []) (by kernel_rfl) ?_
      refine l_det (some 8) (.one (.ref 8 1 0 0), [(8, 1, .row true 58 14 [[.d (.int .i64 0), .d (.int .i64 0), .d (.int .i64 0), .d (.int .i64 0), .d (.int .i64 0), .d (.int .i64 0), .d (.str (⟨#[]⟩ : ByteArray)), .d (.str (⟨#[]⟩ : ByteArray)), .d (.str (⟨#[]⟩ : ByteArray)), .d (.int .i64 0), .d (.int .i64 0), .d (.bool false), .nils, .nils]])]) (by kernel_rfl) ?_
      refine l_det none (.tup [], [(8, 1, .row true 58 14 [[.d (.int .i64 9), .d (.int .i64 0), .d (.int .i64 0), .d (.int .i64 0), .d (.int .i64 1), .d (.int .i64 3), .d (.str service_10), .d (.str version_10), .d (.str operation_10), .d (.int .i64 0), .d (.int .i64 0), .d (.bool false), .nils, .nils]])]) (by kernel_rfl) ?_
      refine l_nil ?_
      refine AW.seq ?_
      refine AW.sregL [(0, none)] (by kernel_rfl) ?_
      refine l_det (some 9) (.one (.d (.int .i64 1)), []) (by kernel_rfl) ?_
      refine l_nil ?_
      refine AW.blk ?_
      refine AW.loopL (S := ((List TSpan) × Int × Int)) (fun s => (fun (v2383 : List TSpan) (v2384 : Int) (v2385 : Int) => [(7, .one (.ref 200001 0 0 0)), (8, .one (.ref 200003 0 0 0)), (9, .one (.d (.int .i64 v2385)))]) s.1 s.2.1 s.2.2) (fun s => (fun (v2383 : List TSpan) (v2384 : Int) (v2385 : Int) => [(200001, .expl true 53 3 [[.d (.int .i64 9), .d (.int .i64 1), .view 200002 0 0 ((List.map TSpan.enc v2383).length)]]), (200002, .pure true 58 14 (List.map TSpan.enc v2383)), (200003, .expl true 58 14 [[.d (.int .i64 9), .d (.int .i64 v2384), .d (.int .i64 0), .d (.int .i64 0), .d (.int .i64 1), .d (.int .i64 3), .d (.str service_10), .d (.str version_10), .d (.str operation_10), .d (.int .i64 0), .d (.int .i64 0), .d (.bool false), .nils, .nils]])]) s.1 s.2.1 s.2.2) (fun (s : ((List TSpan) × Int × Int)) N2386 => L10_2 service_10 version_10 operation_10 K s.1 s.2.1 s.2.2 N2386) (N := fun s => LoopW (fun (s : ((List TSpan) × Int × Int)) N2386 => L10_2 service_10 version_10 operation_10 K s.1 s.2.1 s.2.2 N2386) s) (Lab.mk ([], 0, 1) [(200001, some 7), (200002, none), (200003, some 8)] (by kernel_rfl) (by kernel_rfl) (by kernel_rfl) (by kernel_rfl) h) (fun _ h => h) ?_
      rintro ⟨v2383, v2384, v2385⟩ N2386 h
      have h : L10_2 service_10 version_10 operation_10 K v2383 v2384 v2385 N2386 := h
      unfold L10_2 at h
      refine AW.seq ?_
      refine AW.sregL [(0, none), (1, none)] (by kernel_rfl) ?_
      refine l_det (some 36) (.one (.d (.int .i64 v2385)), []) (by kernel_rfl) ?_
      refine l_det (some 37) (.one (.d (.bool (decide (v2385 ≤ 4096)))), []) (by kernel_rfl) ?_
      refine l_nil ?_
      refine AW.cond' (by kernel_rfl) h (fun h => ?_) (fun h => ?_)
      · refine AW.skip ?_
        refine q_fall ?_
        refine AW.seq ?_
        refine AW.blk ?_
        refine AW.sregL [(0, none), (1, none), (2, none)] (by kernel_rfl) ?_
        refine l_det (some 40) (.one (.d (.int .i64 v2385)), []) (by kernel_rfl) ?_
        refine l_det (some 41) (.one (.ref 200003 0 0 1), []) (by kernel_rfl) ?_
        refine l_det none (.tup [], [(200003, 0, .row true 58 14 [[.d (.int .i64 9), .d (.int .i64 v2385), .d (.int .i64 0), .d (.int .i64 0), .d (.int .i64 1), .d (.int .i64 3), .d (.str service_10), .d (.str version_10), .d (.str operation_10), .d (.int .i64 0), .d (.int .i64 0), .d (.bool false), .nils, .nils]])]) (by kernel_rfl) ?_
        refine l_nil ?_
        refine AW.regL [(0, none), (1, none), (2, none), (3, none), (4, none), (5, none), (6, none)] (by kernel_rfl) ?_
        refine l_det (some 42) (.one (.ref 200001 0 0 2), []) (by kernel_rfl) ?_
        refine l_det (some 43) (.one (.view 200002 0 0 ((List.map TSpan.enc v2383).length)), []) (by kernel_rfl) ?_
        refine l_det (some 44) (.agg [.d (.int .i64 9), .d (.int .i64 v2385), .d (.int .i64 0), .d (.int .i64 0), .d (.int .i64 1), .d (.int .i64 3), .d (.str service_10), .d (.str version_10), .d (.str operation_10), .d (.int .i64 0), .d (.int .i64 0), .d (.bool false), .nils, .nils], []) (by kernel_rfl) ?_
        refine l_det (some 45) (.one (.view 45 1 0 1), [(45, 1, .row true 58 14 [[.d (.int .i64 9), .d (.int .i64 v2385), .d (.int .i64 0), .d (.int .i64 0), .d (.int .i64 1), .d (.int .i64 3), .d (.str service_10), .d (.str version_10), .d (.str operation_10), .d (.int .i64 0), .d (.int .i64 0), .d (.bool false), .nils, .nils]])]) (by kernel_rfl) ?_
        obtain ⟨h21, h⟩ := h
        refine l_spec (some 46) (.app 58 14 168 [.int .i64 0, .int .i64 0, .int .i64 0, .int .i64 0, .int .i64 0, .int .i64 0, .str ⟨#[]⟩, .str ⟨#[]⟩, .str ⟨#[]⟩, .int .i64 0, .int .i64 0, .bool false, .nils, .nils] (.t 43) (.t 45)) (.one (.view 200002 1 0 ((List.map TSpan.enc (v2383 ++ [(TSpan.mk 9 v2385 0 0 1 3 service_10 version_10 operation_10 0 0 false [] [])])).length)), [(200002, 1, .row true 58 14 (dmm (List.map TSpan.enc (v2383 ++ [(TSpan.mk 9 v2385 0 0 1 3 service_10 version_10 operation_10 0 0 false [] [])]))))]) (by kernel_rfl) (detA_none (d_app_v (enc := TSpan.enc) (xc := .view 45 1 0 1) v2383 [(TSpan.mk 9 v2385 0 0 1 3 service_10 version_10 operation_10 0 0 false [] [])] (by kernel_rfl) (by kernel_rfl) (by kernel_rfl) (by kernel_rfl) (by kernel_rfl) h21 (by kernel_rfl))) ?_
        refine l_det (some 47) (.one (.ref 200001 0 0 2), []) (by kernel_rfl) ?_
        refine l_det none (.tup [], [(200001, 0, .row true 53 3 [[.d (.int .i64 9), .d (.int .i64 1), .view 200002 1 0 ((List.map TSpan.enc (v2383 ++ [(TSpan.mk 9 v2385 0 0 1 3 service_10 version_10 operation_10 0 0 false [] [])])).length)]])]) (by kernel_rfl) ?_
        refine l_nil ?_
        refine q_bfall ?_
        refine q_fall ?_
        refine AW.regL [(0, none), (1, none), (2, none)] (by kernel_rfl) ?_
        refine l_det (some 38) (.one (.d (.int .i64 v2385)), []) (by kernel_rfl) ?_
        refine l_det (some 39) (.one (.d (.int .i64 (w64 (v2385 + 1)))), []) (by kernel_rfl) ?_
        refine l_det (some 9) (.one (.d (.int .i64 (w64 (v2385 + 1)))), []) (by kernel_rfl) ?_
        refine l_nil ?_
        refine q_fall ?_
        exact Lab.mk ((v2383 ++ [(TSpan.mk 9 v2385 0 0 1 3 service_10 version_10 operation_10 0 0 false [] [])]), v2385, (w64 (v2385 + 1))) [(200001, some 200001), (200002, some 200002), (200003, some 200003)] (by kernel_rfl) (by kernel_rfl) (by kernel_rfl) (by kernel_rfl) h
      · refine AW.exit ?_
        refine q_exit ?_
        refine q_exit ?_
        refine q_bhere ?_
        refine q_fall ?_
        refine AW.sregL [(0, none), (1, none), (2, none), (3, none)] (by kernel_rfl) ?_
        refine l_det (some 48) (.agg [.d (.int .i64 9), .d (.int .i64 1), .view 200002 0 0 ((List.map TSpan.enc v2383).length)], []) (by kernel_rfl) ?_
        refine l_det (some 49) (.one (.view 49 1 0 1), [(49, 1, .row true 53 3 [[.d (.int .i64 9), .d (.int .i64 1), .view 200002 0 0 ((List.map TSpan.enc v2383).length)]])]) (by kernel_rfl) ?_
        refine l_call ok30 en30 (some 50) [.one (.view 49 1 0 1)] [false] [.one (.d (.sl [[.int .i64 9, .int .i64 1, .sl (List.map TSpan.enc v2383)]]))] [49, 200002] (by kernel_rfl) (ps_plain (pv_one (pf_expl (xs := [[.d (.int .i64 9), .d (.int .i64 1), .view 200002 0 0 ((List.map TSpan.enc v2383).length)]]) (E := 53) (sz := 3) (l := true) (by kernel_rfl) (by kernel_rfl) (by kernel_rfl) rfl (pr_cons (pc_cons pf_d (pc_cons pf_d (pc_cons (pf_view (E := 58) (sz := 14) (l := true) (List.map TSpan.enc v2383) (by kernel_rfl) (by kernel_rfl) rfl) pc_nil))) pr_nil))) ps_nil) (by kernel_rfl) (by kernel_rfl) (by kernel_rfl) (cl30 [(TTrace.mk 9 1 v2383)] h) ?_
        rintro hR _ _ ⟨r4313, rfl, rfl, h⟩
        refine ⟨true, (.one (.d (.int .i64 r4313)), []), (fun _ => (by kernel_rfl)), (by kernel_rfl), ?_⟩
        refine l_det (some 10) (.one (.d (.int .i64 r4313)), []) (by kernel_rfl) ?_
        refine l_nil ?_
        refine AW.sregL [(0, none), (1, none)] (by kernel_rfl) ?_
        refine l_det (some 51) (.one (.ref 200003 0 0 1), []) (by kernel_rfl) ?_
        refine l_det none (.tup [], [(200003, 0, .row true 58 14 [[.d (.int .i64 9), .d (.int .i64 4097), .d (.int .i64 0), .d (.int .i64 0), .d (.int .i64 1), .d (.int .i64 3), .d (.str service_10), .d (.str version_10), .d (.str operation_10), .d (.int .i64 0), .d (.int .i64 0), .d (.bool false), .nils, .nils]])]) (by kernel_rfl) ?_
        refine l_nil ?_
        refine AW.sregL [(0, none), (1, none), (2, none), (3, none), (4, none), (5, none), (6, none)] (by kernel_rfl) ?_
        refine l_det (some 52) (.one (.ref 200001 0 0 2), []) (by kernel_rfl) ?_
        refine l_det (some 53) (.one (.view 200002 0 0 ((List.map TSpan.enc v2383).length)), []) (by kernel_rfl) ?_
        refine l_det (some 54) (.agg [.d (.int .i64 9), .d (.int .i64 4097), .d (.int .i64 0), .d (.int .i64 0), .d (.int .i64 1), .d (.int .i64 3), .d (.str service_10), .d (.str version_10), .d (.str operation_10), .d (.int .i64 0), .d (.int .i64 0), .d (.bool false), .nils, .nils], []) (by kernel_rfl) ?_
        refine l_det (some 55) (.one (.view 55 1 0 1), [(55, 1, .row true 58 14 [[.d (.int .i64 9), .d (.int .i64 4097), .d (.int .i64 0), .d (.int .i64 0), .d (.int .i64 1), .d (.int .i64 3), .d (.str service_10), .d (.str version_10), .d (.str operation_10), .d (.int .i64 0), .d (.int .i64 0), .d (.bool false), .nils, .nils]])]) (by kernel_rfl) ?_
        obtain ⟨h25, h⟩ := h
        refine l_spec (some 56) (.app 58 14 168 [.int .i64 0, .int .i64 0, .int .i64 0, .int .i64 0, .int .i64 0, .int .i64 0, .str ⟨#[]⟩, .str ⟨#[]⟩, .str ⟨#[]⟩, .int .i64 0, .int .i64 0, .bool false, .nils, .nils] (.t 53) (.t 55)) (.one (.view 200002 1 0 ((List.map TSpan.enc (v2383 ++ [(TSpan.mk 9 4097 0 0 1 3 service_10 version_10 operation_10 0 0 false [] [])])).length)), [(200002, 1, .row true 58 14 (dmm (List.map TSpan.enc (v2383 ++ [(TSpan.mk 9 4097 0 0 1 3 service_10 version_10 operation_10 0 0 false [] [])]))))]) (by kernel_rfl) (detA_none (d_app_v (enc := TSpan.enc) (xc := .view 55 1 0 1) v2383 [(TSpan.mk 9 4097 0 0 1 3 service_10 version_10 operation_10 0 0 false [] [])] (by kernel_rfl) (by kernel_rfl) (by kernel_rfl) (by kernel_rfl) (by kernel_rfl) h25 (by kernel_rfl))) ?_
        refine l_det (some 57) (.one (.ref 200001 0 0 2), []) (by kernel_rfl) ?_
        refine l_det none (.tup [], [(200001, 0, .row true 53 3 [[.d (.int .i64 9), .d (.int .i64 1), .view 200002 1 0 ((List.map TSpan.enc (v2383 ++ [(TSpan.mk 9 4097 0 0 1 3 service_10 version_10 operation_10 0 0 false [] [])])).length)]])]) (by kernel_rfl) ?_
        refine l_nil ?_
        refine AW.sregL [(0, none), (1, none), (2, none), (3, none)] (by kernel_rfl) ?_
        refine l_det (some 58) (.agg [.d (.int .i64 9), .d (.int .i64 1), .view 200002 1 0 ((List.map TSpan.enc (v2383 ++ [(TSpan.mk 9 4097 0 0 1 3 service_10 version_10 operation_10 0 0 false [] [])])).length)], []) (by kernel_rfl) ?_
        refine l_det (some 59) (.one (.view 59 1 0 1), [(59, 1, .row true 53 3 [[.d (.int .i64 9), .d (.int .i64 1), .view 200002 1 0 ((List.map TSpan.enc (v2383 ++ [(TSpan.mk 9 4097 0 0 1 3 service_10 version_10 operation_10 0 0 false [] [])])).length)]])]) (by kernel_rfl) ?_
        refine l_call ok30 en30 (some 60) [.one (.view 59 1 0 1)] [false] [.one (.d (.sl [[.int .i64 9, .int .i64 1, .sl (List.map TSpan.enc (v2383 ++ [(TSpan.mk 9 4097 0 0 1 3 service_10 version_10 operation_10 0 0 false [] [])]))]]))] [59, 200002] (by kernel_rfl) (ps_plain (pv_one (pf_expl (xs := [[.d (.int .i64 9), .d (.int .i64 1), .view 200002 1 0 ((List.map TSpan.enc (v2383 ++ [(TSpan.mk 9 4097 0 0 1 3 service_10 version_10 operation_10 0 0 false [] [])])).length)]]) (E := 53) (sz := 3) (l := true) (by kernel_rfl) (by kernel_rfl) (by kernel_rfl) rfl (pr_cons (pc_cons pf_d (pc_cons pf_d (pc_cons (pf_view (E := 58) (sz := 14) (l := true) (List.map TSpan.enc (v2383 ++ [(TSpan.mk 9 4097 0 0 1 3 service_10 version_10 operation_10 0 0 false [] [])])) (by kernel_rfl) (by kernel_rfl) rfl) pc_nil))) pr_nil))) ps_nil) (by kernel_rfl) (by kernel_rfl) (by kernel_rfl) (cl30 [(TTrace.mk 9 1 (v2383 ++ [(TSpan.mk 9 4097 0 0 1 3 service_10 version_10 operation_10 0 0 false [] [])]))] h) ?_
        rintro hR _ _ ⟨r4315, rfl, rfl, h⟩
        refine ⟨true, (.one (.d (.int .i64 r4315)), []), (fun _ => (by kernel_rfl)), (by kernel_rfl), ?_⟩
        refine l_det (some 11) (.one (.d (.int .i64 r4315)), []) (by kernel_rfl) ?_
        refine l_nil ?_
        refine AW.sregL [(0, none), (1, none), (2, none)] (by kernel_rfl) ?_
        refine l_det (some 61) (.agg [.d (.int .i64 9), .d (.int .i64 4097), .d (.int .i64 0), .d (.int .i64 0), .d (.int .i64 1), .d (.int .i64 3), .d (.str service_10), .d (.str version_10), .d (.str operation_10), .d (.int .i64 0), .d (.int .i64 0), .d (.bool false), .nils, .nils], []) (by kernel_rfl) ?_
        refine l_call ok32 en32 (some 62) [.agg [.d (.int .i64 9), .d (.int .i64 4097), .d (.int .i64 0), .d (.int .i64 0), .d (.int .i64 1), .d (.int .i64 3), .d (.str service_10), .d (.str version_10), .d (.str operation_10), .d (.int .i64 0), .d (.int .i64 0), .d (.bool false), .nils, .nils]] [false] [.agg (List.map RC.d [.int .i64 9, .int .i64 4097, .int .i64 0, .int .i64 0, .int .i64 1, .int .i64 3, .str service_10, .str version_10, .str operation_10, .int .i64 0, .int .i64 0, .bool false, .sl [], .sl []])] [] (by kernel_rfl) ⟨by kernel_rfl, by kernel_rfl⟩ (by kernel_rfl) (by kernel_rfl) (by kernel_rfl) (cl32 (TSpan.mk 9 4097 0 0 1 3 service_10 version_10 operation_10 0 0 false [] []) h) ?_
        rintro hR _ _ ⟨r4317, rfl, rfl, h⟩
        refine ⟨false, (.one (.d (.int .i64 r4317)), []), (fun hz => (by cases hz)), (ret_R hR (by kernel_rfl)), ?_⟩
        refine l_det (some 12) (.one (.d (.int .i64 r4317)), []) (by kernel_rfl) ?_
        refine l_nil ?_
        refine AW.seqL (S := Bool) (fun s => (fun (v4318 : Bool) => [(6, .one (.d (.bool v4318)))]) s) (fun s => (fun (v4318 : Bool) => []) s) (fun s : Bool => J10_3 K s) ?_ ?_
        · refine AW.regL [(0, none), (1, none), (2, none), (3, none), (4, none), (5, none), (6, none), (7, none), (8, none), (9, none), (10, none), (11, none), (12, none), (13, none), (14, none), (15, none), (16, none), (17, none), (18, none), (19, none), (20, none)] (by kernel_rfl) ?_
          refine l_det (some 63) (.one (.d (.int .i64 r4313)), []) (by kernel_rfl) ?_
          refine l_det (some 64) (.one (.d (.int .i64 r4317)), []) (by kernel_rfl) ?_
          refine l_det (some 65) (.one (.d (.bool (decide (r4313 = r4317)))), []) (by kernel_rfl) ?_
          refine l_det (some 66) (.one (.d (.bool (decide (r4313 = r4317)))), []) (by kernel_rfl) ?_
          refine l_split (s := 66) (by kernel_rfl) h (fun h => ?_) (fun h => ?_)
          · refine l_det (some 67) (.one (.d (.int .i64 r4315)), []) (by kernel_rfl) ?_
            refine l_det (some 68) (.one (.d (.int .i64 r4317)), []) (by kernel_rfl) ?_
            refine l_det (some 69) (.one (.d (.bool (decide (r4315 = r4317)))), []) (by kernel_rfl) ?_
            refine l_det (some 70) (.one (.d (.bool (decide (r4315 = r4317)))), []) (by kernel_rfl) ?_
            refine l_split (s := 70) (by kernel_rfl) h (fun h => ?_) (fun h => ?_)
            · refine l_det (some 71) (.one (.d (.int .i64 r4317)), []) (by kernel_rfl) ?_
              refine l_det (some 72) (.one (.d (.bool (decide (¬ r4317 = 0)))), []) (by kernel_rfl) ?_
              refine l_det (some 73) (.one (.d (.bool (decide (¬ r4317 = 0)))), []) (by kernel_rfl) ?_
              refine l_det (some 74) (.one (.d (.bool (decide (¬ r4317 = 0)))), []) (by kernel_rfl) ?_
              refine l_split (s := 74) (by kernel_rfl) h (fun h => ?_) (fun h => ?_)
              · refine l_det (some 75) (.tup [], []) (by kernel_rfl) ?_
                refine l_det (some 76) (.tup [], []) (by kernel_rfl) ?_
                refine l_det (some 77) (.tup [], []) (by kernel_rfl) ?_
                refine l_det (some 78) (.tup [], []) (by kernel_rfl) ?_
                refine l_det (some 79) (.tup [], []) (by kernel_rfl) ?_
                refine l_det (some 80) (.tup [], []) (by kernel_rfl) ?_
                refine l_det (some 81) (.one (.d (.bool true)), []) (by kernel_rfl) ?_
                refine l_det (some 82) (.one (.d (.bool true)), []) (by kernel_rfl) ?_
                refine l_det (some 6) (.one (.d (.bool true)), []) (by kernel_rfl) ?_
                refine l_nil ?_
                refine q_fall ?_
                exact Lab.mk true [] (by kernel_rfl) (by kernel_rfl) (by kernel_rfl) (by kernel_rfl) h
              · refine l_det (some 75) (.one (.d (.int .i64 r4315)), []) (by kernel_rfl) ?_
                refine l_det (some 76) (.one (.d (.bool (decide (r4315 = 6)))), []) (by kernel_rfl) ?_
                refine l_det (some 77) (.one (.d (.bool (decide (r4315 = 6)))), []) (by kernel_rfl) ?_
                refine l_split (s := 77) (by kernel_rfl) h (fun h => ?_) (fun h => ?_)
                · refine l_det (some 78) (.one (.d (.int .i64 r4317)), []) (by kernel_rfl) ?_
                  refine l_det (some 79) (.one (.d (.bool (decide (r4317 = 0)))), []) (by kernel_rfl) ?_
                  refine l_det (some 80) (.one (.d (.bool (decide (r4317 = 0)))), []) (by kernel_rfl) ?_
                  refine l_det (some 81) (.one (.d (.bool (decide (r4317 = 0)))), []) (by kernel_rfl) ?_
                  refine l_det (some 82) (.one (.d (.bool (decide (r4317 = 0)))), []) (by kernel_rfl) ?_
                  refine l_det (some 6) (.one (.d (.bool (decide (r4317 = 0)))), []) (by kernel_rfl) ?_
                  refine l_nil ?_
                  refine q_fall ?_
                  exact Lab.mk (decide (r4317 = 0)) [] (by kernel_rfl) (by kernel_rfl) (by kernel_rfl) (by kernel_rfl) h
                · refine l_det (some 78) (.tup [], []) (by kernel_rfl) ?_
                  refine l_det (some 79) (.tup [], []) (by kernel_rfl) ?_
                  refine l_det (some 80) (.one (.d (.bool false)), []) (by kernel_rfl) ?_
                  refine l_det (some 81) (.one (.d (.bool false)), []) (by kernel_rfl) ?_
                  refine l_det (some 82) (.one (.d (.bool false)), []) (by kernel_rfl) ?_
                  refine l_det (some 6) (.one (.d (.bool false)), []) (by kernel_rfl) ?_
                  refine l_nil ?_
                  refine q_fall ?_
                  exact Lab.mk false [] (by kernel_rfl) (by kernel_rfl) (by kernel_rfl) (by kernel_rfl) h
            · refine l_det (some 71) (.tup [], []) (by kernel_rfl) ?_
              refine l_det (some 72) (.tup [], []) (by kernel_rfl) ?_
              refine l_det (some 73) (.one (.d (.bool false)), []) (by kernel_rfl) ?_
              refine l_det (some 74) (.one (.d (.bool false)), []) (by kernel_rfl) ?_
              refine l_det (some 75) (.one (.d (.int .i64 r4315)), []) (by kernel_rfl) ?_
              refine l_det (some 76) (.one (.d (.bool (decide (r4315 = 6)))), []) (by kernel_rfl) ?_
              refine l_det (some 77) (.one (.d (.bool (decide (r4315 = 6)))), []) (by kernel_rfl) ?_
              refine l_split (s := 77) (by kernel_rfl) h (fun h => ?_) (fun h => ?_)
              · refine l_det (some 78) (.one (.d (.int .i64 r4317)), []) (by kernel_rfl) ?_
                refine l_det (some 79) (.one (.d (.bool (decide (r4317 = 0)))), []) (by kernel_rfl) ?_
                refine l_det (some 80) (.one (.d (.bool (decide (r4317 = 0)))), []) (by kernel_rfl) ?_
                refine l_det (some 81) (.one (.d (.bool (decide (r4317 = 0)))), []) (by kernel_rfl) ?_
                refine l_det (some 82) (.one (.d (.bool (decide (r4317 = 0)))), []) (by kernel_rfl) ?_
                refine l_det (some 6) (.one (.d (.bool (decide (r4317 = 0)))), []) (by kernel_rfl) ?_
                refine l_nil ?_
                refine q_fall ?_
                exact Lab.mk (decide (r4317 = 0)) [] (by kernel_rfl) (by kernel_rfl) (by kernel_rfl) (by kernel_rfl) h
              · refine l_det (some 78) (.tup [], []) (by kernel_rfl) ?_
                refine l_det (some 79) (.tup [], []) (by kernel_rfl) ?_
                refine l_det (some 80) (.one (.d (.bool false)), []) (by kernel_rfl) ?_
                refine l_det (some 81) (.one (.d (.bool false)), []) (by kernel_rfl) ?_
                refine l_det (some 82) (.one (.d (.bool false)), []) (by kernel_rfl) ?_
                refine l_det (some 6) (.one (.d (.bool false)), []) (by kernel_rfl) ?_
                refine l_nil ?_
                refine q_fall ?_
                exact Lab.mk false [] (by kernel_rfl) (by kernel_rfl) (by kernel_rfl) (by kernel_rfl) h
          · refine l_det (some 67) (.tup [], []) (by kernel_rfl) ?_
            refine l_det (some 68) (.tup [], []) (by kernel_rfl) ?_
            refine l_det (some 69) (.tup [], []) (by kernel_rfl) ?_
            refine l_det (some 70) (.tup [], []) (by kernel_rfl) ?_
            refine l_det (some 71) (.tup [], []) (by kernel_rfl) ?_
            refine l_det (some 72) (.tup [], []) (by kernel_rfl) ?_
            refine l_det (some 73) (.tup [], []) (by kernel_rfl) ?_
            refine l_det (some 74) (.tup [], []) (by kernel_rfl) ?_
            refine l_det (some 75) (.tup [], []) (by kernel_rfl) ?_
            refine l_det (some 76) (.tup [], []) (by kernel_rfl) ?_
            refine l_det (some 77) (.tup [], []) (by kernel_rfl) ?_
            refine l_det (some 78) (.tup [], []) (by kernel_rfl) ?_
            refine l_det (some 79) (.tup [], []) (by kernel_rfl) ?_
            refine l_det (some 80) (.tup [], []) (by kernel_rfl) ?_
            refine l_det (some 81) (.tup [], []) (by kernel_rfl) ?_
            refine l_det (some 82) (.one (.d (.bool false)), []) (by kernel_rfl) ?_
            refine l_det (some 6) (.one (.d (.bool false)), []) (by kernel_rfl) ?_
            refine l_nil ?_
            refine q_fall ?_
            exact Lab.mk false [] (by kernel_rfl) (by kernel_rfl) (by kernel_rfl) (by kernel_rfl) h
        · rintro v4318 h
          have h : J10_3 K v4318 := h
          unfold J10_3 at h
          refine AW.ret ?_
          exact q_end [.one (.d (.bool v4318))] [false] [.one (.d (.bool v4318))] [] [] (by kernel_rfl) ⟨by kernel_rfl, by kernel_rfl⟩ (by kernel_rfl) (by kernel_rfl) (by kernel_rfl) (by kernel_rfl) (Eq.mp (by kernel_rfl) (hK v4318 h)) (.inr rfl)
end Go.Proofs.Ytnpdeecoejabgaa
