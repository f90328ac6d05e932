/- Typed data out of a reading of the arguments. Printed by a program of mine (gs.py). -/
import Derived.Test.YtnpdeecoejabgaaFAT
import Derived.Test.YtnpdeecoejabgaaProg
set_option maxRecDepth 100000
set_option linter.unusedVariables false
set_option linter.unusedSimpArgs false
namespace Go.Proofs.Ytnpdeecoejabgaa
open Go Go.RowKit

theorem has_u85 {n : Nat} {cs : List C} (h : HasT Try.prog (n + 1) 5 cs) : ∃ x, cs = [.int .u8 x] ∧ 0 ≤ x ∧ x ≤ 255 := hasT_int (P := Try.prog) (t := 5) (by kernel_rfl) h
theorem has_u85' {n : Nat} {cs : List C} (h : HasT Try.prog (n + 1) 5 cs) : ∃ x, cs = eInt .u8 x ∧ 0 ≤ x ∧ x ≤ 255 := has_u85 h
theorem has_bool4 {n : Nat} {cs : List C} (h : HasT Try.prog (n + 1) 4 cs) : ∃ x, cs = [.bool x] := hasT_bool (P := Try.prog) (t := 4) (by kernel_rfl) h
theorem has_bool4' {n : Nat} {cs : List C} (h : HasT Try.prog (n + 1) 4 cs) : ∃ x, cs = eBool x ∧ True := let ⟨x, h⟩ := has_bool4 h; ⟨x, h, trivial⟩
def TCall.ok (a : TCall) : Prop := (0 ≤ a.parent ∧ a.parent ≤ 255) ∧ (0 ≤ a.clock ∧ a.clock ≤ 255) ∧ (0 ≤ a.kind ∧ a.kind ≤ 255) ∧ (0 ≤ a.service ∧ a.service ≤ 255) ∧ (0 ≤ a.version ∧ a.version ≤ 255) ∧ (0 ≤ a.operation ∧ a.operation ≤ 255) ∧ (0 ≤ a.wait ∧ a.wait ≤ 255) ∧ (0 ≤ a.long ∧ a.long ≤ 255) ∧ (0 ≤ a.link ∧ a.link ≤ 255) ∧ (0 ≤ a.tag ∧ a.tag ≤ 255)
theorem has_TCall {n : Nat} {cs : List C} (h : HasT Try.prog (n + 2) 153 cs) : ∃ a : TCall, cs = TCall.enc a ∧ a.ok := by
  have hlen := hasT_len (P := Try.prog) (n := n + 1) (t := 153) (m := 11) (by kernel_rfl) h
  match cs, hlen with
  | [c0, c1, c2, c3, c4, c5, c6, c7, c8, c9, c10], _ =>
    have g0 : HasT Try.prog ((n + 0) + 1) 5 [c0] := hasT_fld (P := Try.prog) (n := n + 1) (t := 153) (j := 0) (ft := 5) (off := 0) (sz := 1) (by kernel_rfl) h
    obtain ⟨v0, e0, k0⟩ := has_u85 g0
    cases e0
    have g1 : HasT Try.prog ((n + 0) + 1) 5 [c1] := hasT_fld (P := Try.prog) (n := n + 1) (t := 153) (j := 1) (ft := 5) (off := 1) (sz := 1) (by kernel_rfl) h
    obtain ⟨v1, e1, k1⟩ := has_u85 g1
    cases e1
    have g2 : HasT Try.prog ((n + 0) + 1) 5 [c2] := hasT_fld (P := Try.prog) (n := n + 1) (t := 153) (j := 2) (ft := 5) (off := 2) (sz := 1) (by kernel_rfl) h
    obtain ⟨v2, e2, k2⟩ := has_u85 g2
    cases e2
    have g3 : HasT Try.prog ((n + 0) + 1) 5 [c3] := hasT_fld (P := Try.prog) (n := n + 1) (t := 153) (j := 3) (ft := 5) (off := 3) (sz := 1) (by kernel_rfl) h
    obtain ⟨v3, e3, k3⟩ := has_u85 g3
    cases e3
    have g4 : HasT Try.prog ((n + 0) + 1) 5 [c4] := hasT_fld (P := Try.prog) (n := n + 1) (t := 153) (j := 4) (ft := 5) (off := 4) (sz := 1) (by kernel_rfl) h
    obtain ⟨v4, e4, k4⟩ := has_u85 g4
    cases e4
    have g5 : HasT Try.prog ((n + 0) + 1) 5 [c5] := hasT_fld (P := Try.prog) (n := n + 1) (t := 153) (j := 5) (ft := 5) (off := 5) (sz := 1) (by kernel_rfl) h
    obtain ⟨v5, e5, k5⟩ := has_u85 g5
    cases e5
    have g6 : HasT Try.prog ((n + 0) + 1) 5 [c6] := hasT_fld (P := Try.prog) (n := n + 1) (t := 153) (j := 6) (ft := 5) (off := 6) (sz := 1) (by kernel_rfl) h
    obtain ⟨v6, e6, k6⟩ := has_u85 g6
    cases e6
    have g7 : HasT Try.prog ((n + 0) + 1) 5 [c7] := hasT_fld (P := Try.prog) (n := n + 1) (t := 153) (j := 7) (ft := 5) (off := 7) (sz := 1) (by kernel_rfl) h
    obtain ⟨v7, e7, k7⟩ := has_u85 g7
    cases e7
    have g8 : HasT Try.prog ((n + 0) + 1) 5 [c8] := hasT_fld (P := Try.prog) (n := n + 1) (t := 153) (j := 8) (ft := 5) (off := 8) (sz := 1) (by kernel_rfl) h
    obtain ⟨v8, e8, k8⟩ := has_u85 g8
    cases e8
    have g9 : HasT Try.prog ((n + 0) + 1) 5 [c9] := hasT_fld (P := Try.prog) (n := n + 1) (t := 153) (j := 9) (ft := 5) (off := 9) (sz := 1) (by kernel_rfl) h
    obtain ⟨v9, e9, k9⟩ := has_u85 g9
    cases e9
    have g10 : HasT Try.prog ((n + 0) + 1) 4 [c10] := hasT_fld (P := Try.prog) (n := n + 1) (t := 153) (j := 10) (ft := 4) (off := 10) (sz := 1) (by kernel_rfl) h
    obtain ⟨v10, e10⟩ := has_bool4 g10
    cases e10
    exact ⟨⟨v0, v1, v2, v3, v4, v5, v6, v7, v8, v9, v10⟩, rfl, ⟨k0, k1, k2, k3, k4, k5, k6, k7, k8, k9⟩⟩
theorem has_sl102 {n : Nat} {cs : List C} (h : HasT Try.prog (n + 3) 102 cs) : ∃ l : List TCall, cs = [.sl (l.map TCall.enc)] ∧ (l.length ≤ 9223372036854775807 ∧ ∀ q ∈ l, TCall.ok q) := hasT_sl (P := Try.prog) (n := n + 2) (t := 102) (e := 153) (by kernel_rfl) (fun x h => has_TCall h) h
def TTree.ok (a : TTree) : Prop := (0 ≤ a.slot ∧ a.slot ≤ 255) ∧ (0 ≤ a.start ∧ a.start ≤ 255) ∧ (a.calls.length ≤ 9223372036854775807 ∧ ∀ q ∈ a.calls, TCall.ok q)
theorem has_TTree {n : Nat} {cs : List C} (h : HasT Try.prog (n + 4) 104 cs) : ∃ a : TTree, cs = TTree.enc a ∧ a.ok := by
  have hlen := hasT_len (P := Try.prog) (n := n + 3) (t := 104) (m := 3) (by kernel_rfl) h
  match cs, hlen with
  | [c0, c1, c2], _ =>
    have g0 : HasT Try.prog ((n + 2) + 1) 5 [c0] := hasT_fld (P := Try.prog) (n := n + 3) (t := 104) (j := 0) (ft := 5) (off := 0) (sz := 1) (by kernel_rfl) h
    obtain ⟨v0, e0, k0⟩ := has_u85 g0
    cases e0
    have g1 : HasT Try.prog ((n + 2) + 1) 5 [c1] := hasT_fld (P := Try.prog) (n := n + 3) (t := 104) (j := 1) (ft := 5) (off := 1) (sz := 1) (by kernel_rfl) h
    obtain ⟨v1, e1, k1⟩ := has_u85 g1
    cases e1
    have g2 : HasT Try.prog ((n + 0) + 3) 102 [c2] := hasT_fld (P := Try.prog) (n := n + 3) (t := 104) (j := 2) (ft := 102) (off := 2) (sz := 1) (by kernel_rfl) h
    obtain ⟨v2, e2, k2⟩ := has_sl102 g2
    cases e2
    exact ⟨⟨v0, v1, v2⟩, rfl, ⟨k0, k1, k2⟩⟩
theorem has_sl22 {n : Nat} {cs : List C} (h : HasT Try.prog (n + 5) 22 cs) : ∃ l : List TTree, cs = [.sl (l.map TTree.enc)] ∧ (l.length ≤ 9223372036854775807 ∧ ∀ q ∈ l, TTree.ok q) := hasT_sl (P := Try.prog) (n := n + 4) (t := 22) (e := 104) (by kernel_rfl) (fun x h => has_TTree h) h
theorem has_i823 {n : Nat} {cs : List C} (h : HasT Try.prog (n + 1) 23 cs) : ∃ x, cs = [.int .i8 x] ∧ (-128) ≤ x ∧ x ≤ 127 := hasT_int (P := Try.prog) (t := 23) (by kernel_rfl) h
theorem has_i823' {n : Nat} {cs : List C} (h : HasT Try.prog (n + 1) 23 cs) : ∃ x, cs = eInt .i8 x ∧ (-128) ≤ x ∧ x ≤ 127 := has_i823 h
def TA24.ok (a : TA24) : Prop := ((-128) ≤ a.e0 ∧ a.e0 ≤ 127) ∧ ((-128) ≤ a.e1 ∧ a.e1 ≤ 127) ∧ ((-128) ≤ a.e2 ∧ a.e2 ≤ 127) ∧ ((-128) ≤ a.e3 ∧ a.e3 ≤ 127)
theorem has_TA24 {n : Nat} {cs : List C} (h : HasT Try.prog (n + 2) 24 cs) : ∃ a : TA24, cs = TA24.enc a ∧ a.ok := by
  have hlen := hasT_len (P := Try.prog) (n := n + 1) (t := 24) (m := 4) (by kernel_rfl) h
  match cs, hlen with
  | [c0, c1, c2, c3], _ =>
    have g0 : HasT Try.prog ((n + 0) + 1) 23 [c0] := hasT_elem (P := Try.prog) (n := n + 1) (t := 24) (m := 4 ) (e := 23) (sz := 1) (by kernel_rfl) 0 (by decide) h
    obtain ⟨v0, e0, k0⟩ := has_i823 g0
    cases e0
    have g1 : HasT Try.prog ((n + 0) + 1) 23 [c1] := hasT_elem (P := Try.prog) (n := n + 1) (t := 24) (m := 4 ) (e := 23) (sz := 1) (by kernel_rfl) 1 (by decide) h
    obtain ⟨v1, e1, k1⟩ := has_i823 g1
    cases e1
    have g2 : HasT Try.prog ((n + 0) + 1) 23 [c2] := hasT_elem (P := Try.prog) (n := n + 1) (t := 24) (m := 4 ) (e := 23) (sz := 1) (by kernel_rfl) 2 (by decide) h
    obtain ⟨v2, e2, k2⟩ := has_i823 g2
    cases e2
    have g3 : HasT Try.prog ((n + 0) + 1) 23 [c3] := hasT_elem (P := Try.prog) (n := n + 1) (t := 24) (m := 4 ) (e := 23) (sz := 1) (by kernel_rfl) 3 (by decide) h
    obtain ⟨v3, e3, k3⟩ := has_i823 g3
    cases e3
    exact ⟨⟨v0, v1, v2, v3⟩, rfl, ⟨k0, k1, k2, k3⟩⟩
def TSync.ok (a : TSync) : Prop := (0 ≤ a.from_ ∧ a.from_ ≤ 255) ∧ (0 ≤ a.to_ ∧ a.to_ ≤ 255) ∧ (0 ≤ a.at_ ∧ a.at_ ≤ 255) ∧ (0 ≤ a.delay ∧ a.delay ≤ 255) ∧ (0 ≤ a.slack ∧ a.slack ≤ 255)
theorem has_TSync {n : Nat} {cs : List C} (h : HasT Try.prog (n + 2) 193 cs) : ∃ a : TSync, cs = TSync.enc a ∧ a.ok := by
  have hlen := hasT_len (P := Try.prog) (n := n + 1) (t := 193) (m := 5) (by kernel_rfl) h
  match cs, hlen with
  | [c0, c1, c2, c3, c4], _ =>
    have g0 : HasT Try.prog ((n + 0) + 1) 5 [c0] := hasT_fld (P := Try.prog) (n := n + 1) (t := 193) (j := 0) (ft := 5) (off := 0) (sz := 1) (by kernel_rfl) h
    obtain ⟨v0, e0, k0⟩ := has_u85 g0
    cases e0
    have g1 : HasT Try.prog ((n + 0) + 1) 5 [c1] := hasT_fld (P := Try.prog) (n := n + 1) (t := 193) (j := 1) (ft := 5) (off := 1) (sz := 1) (by kernel_rfl) h
    obtain ⟨v1, e1, k1⟩ := has_u85 g1
    cases e1
    have g2 : HasT Try.prog ((n + 0) + 1) 5 [c2] := hasT_fld (P := Try.prog) (n := n + 1) (t := 193) (j := 2) (ft := 5) (off := 2) (sz := 1) (by kernel_rfl) h
    obtain ⟨v2, e2, k2⟩ := has_u85 g2
    cases e2
    have g3 : HasT Try.prog ((n + 0) + 1) 5 [c3] := hasT_fld (P := Try.prog) (n := n + 1) (t := 193) (j := 3) (ft := 5) (off := 3) (sz := 1) (by kernel_rfl) h
    obtain ⟨v3, e3, k3⟩ := has_u85 g3
    cases e3
    have g4 : HasT Try.prog ((n + 0) + 1) 5 [c4] := hasT_fld (P := Try.prog) (n := n + 1) (t := 193) (j := 4) (ft := 5) (off := 4) (sz := 1) (by kernel_rfl) h
    obtain ⟨v4, e4, k4⟩ := has_u85 g4
    cases e4
    exact ⟨⟨v0, v1, v2, v3, v4⟩, rfl, ⟨k0, k1, k2, k3, k4⟩⟩
theorem has_sl25 {n : Nat} {cs : List C} (h : HasT Try.prog (n + 3) 25 cs) : ∃ l : List TSync, cs = [.sl (l.map TSync.enc)] ∧ (l.length ≤ 9223372036854775807 ∧ ∀ q ∈ l, TSync.ok q) := hasT_sl (P := Try.prog) (n := n + 2) (t := 25) (e := 193) (by kernel_rfl) (fun x h => has_TSync h) h
def TStory.ok (a : TStory) : Prop := (a.trees.length ≤ 9223372036854775807 ∧ ∀ q ∈ a.trees, TTree.ok q) ∧ TA24.ok a.offsets ∧ (a.syncs.length ≤ 9223372036854775807 ∧ ∀ q ∈ a.syncs, TSync.ok q) ∧ (0 ≤ a.wrong ∧ a.wrong ≤ 255)
theorem has_TStory {n : Nat} {cs : List C} (h : HasT Try.prog (n + 6) 27 cs) : ∃ a : TStory, cs = TStory.enc a ∧ a.ok := by
  have hlen := hasT_len (P := Try.prog) (n := n + 5) (t := 27) (m := 7) (by kernel_rfl) h
  match cs, hlen with
  | [c0, c1, c2, c3, c4, c5, c6], _ =>
    have g0 : HasT Try.prog ((n + 0) + 5) 22 [c0] := hasT_fld (P := Try.prog) (n := n + 5) (t := 27) (j := 0) (ft := 22) (off := 0) (sz := 1) (by kernel_rfl) h
    obtain ⟨v0, e0, k0⟩ := has_sl22 g0
    cases e0
    have g1 : HasT Try.prog ((n + 3) + 2) 24 [c1, c2, c3, c4] := hasT_fld (P := Try.prog) (n := n + 5) (t := 27) (j := 1) (ft := 24) (off := 1) (sz := 4) (by kernel_rfl) h
    obtain ⟨v1, e1, k1⟩ := has_TA24 g1
    simp only [TA24.enc, List.cons.injEq, and_true] at e1
    obtain ⟨rfl, rfl, rfl, rfl⟩ := e1
    have g2 : HasT Try.prog ((n + 2) + 3) 25 [c5] := hasT_fld (P := Try.prog) (n := n + 5) (t := 27) (j := 2) (ft := 25) (off := 5) (sz := 1) (by kernel_rfl) h
    obtain ⟨v2, e2, k2⟩ := has_sl25 g2
    cases e2
    have g3 : HasT Try.prog ((n + 4) + 1) 5 [c6] := hasT_fld (P := Try.prog) (n := n + 5) (t := 27) (j := 3) (ft := 5) (off := 6) (sz := 1) (by kernel_rfl) h
    obtain ⟨v3, e3, k3⟩ := has_u85 g3
    cases e3
    exact ⟨⟨v0, v1, v2, v3⟩, rfl, ⟨k0, k1, k2, k3⟩⟩
def TA28.ok (a : TA28) : Prop := (0 ≤ a.e0 ∧ a.e0 ≤ 255) ∧ (0 ≤ a.e1 ∧ a.e1 ≤ 255) ∧ (0 ≤ a.e2 ∧ a.e2 ≤ 255)
theorem has_TA28 {n : Nat} {cs : List C} (h : HasT Try.prog (n + 2) 28 cs) : ∃ a : TA28, cs = TA28.enc a ∧ a.ok := by
  have hlen := hasT_len (P := Try.prog) (n := n + 1) (t := 28) (m := 3) (by kernel_rfl) h
  match cs, hlen with
  | [c0, c1, c2], _ =>
    have g0 : HasT Try.prog ((n + 0) + 1) 5 [c0] := hasT_elem (P := Try.prog) (n := n + 1) (t := 28) (m := 3 ) (e := 5) (sz := 1) (by kernel_rfl) 0 (by decide) h
    obtain ⟨v0, e0, k0⟩ := has_u85 g0
    cases e0
    have g1 : HasT Try.prog ((n + 0) + 1) 5 [c1] := hasT_elem (P := Try.prog) (n := n + 1) (t := 28) (m := 3 ) (e := 5) (sz := 1) (by kernel_rfl) 1 (by decide) h
    obtain ⟨v1, e1, k1⟩ := has_u85 g1
    cases e1
    have g2 : HasT Try.prog ((n + 0) + 1) 5 [c2] := hasT_elem (P := Try.prog) (n := n + 1) (t := 28) (m := 3 ) (e := 5) (sz := 1) (by kernel_rfl) 2 (by decide) h
    obtain ⟨v2, e2, k2⟩ := has_u85 g2
    cases e2
    exact ⟨⟨v0, v1, v2⟩, rfl, ⟨k0, k1, k2⟩⟩
theorem has_i643 {n : Nat} {cs : List C} (h : HasT Try.prog (n + 1) 3 cs) : ∃ x, cs = [.int .i64 x] ∧ (-9223372036854775808) ≤ x ∧ x ≤ 9223372036854775807 := hasT_int (P := Try.prog) (t := 3) (by kernel_rfl) h
theorem has_i643' {n : Nat} {cs : List C} (h : HasT Try.prog (n + 1) 3 cs) : ∃ x, cs = eInt .i64 x ∧ (-9223372036854775808) ≤ x ∧ x ≤ 9223372036854775807 := has_i643 h

end Go.Proofs.Ytnpdeecoejabgaa
