/- EstimateSums: its function returns true. -/
import Derived.Test.YtnpdeecoejabgaaPFW
import Derived.Test.YtnpdeecoejabgaaPT
set_option maxRecDepth 100000
set_option linter.unusedSimpArgs false
set_option linter.unusedVariables false
namespace Go.Proofs.Ytnpdeecoejabgaa
open Go Go.RowKit

/-- What is chosen so far, and what is left. -/
structure Picked (l : List TLine) (n : Int) (rest want : List TLine) : Prop where
  srt : SSorted rest
  perm : (want ++ rest).Perm l
  wlt : want.Pairwise lt
  less : ∀ w ∈ want, ∀ y ∈ rest, lt w y
  len : (want.length : Int) ≤ n ∨ want = []

theorem pick_one {l : List TLine} {n : Int} {rest want : List TLine} (h : Picked l n rest want) (hn : (want.length : Int) < n) {b : Nat} {x : TLine} (hx : rest[b]? = some x)
    (h1 : ∀ (j : Nat) (y : TLine), j < b → rest[j]? = some y → dur y < dur x) (h2 : ∀ (j : Nat) (y : TLine), rest[j]? = some y → dur y ≤ dur x) : Picked l n (rest.take b ++ rest.drop (b + 1)) (want ++ [x]) := by
  have hb := (List.getElem?_eq_some_iff.1 hx).1
  have e : rest = rest.take b ++ x :: rest.drop (b + 1) := by
    have : x = rest[b] := (List.getElem?_eq_some_iff.1 hx).2.symm
    rw [this, ← List.drop_eq_getElem_cons hb, List.take_append_drop]
  have hlt : ∀ y ∈ rest.take b ++ rest.drop (b + 1), lt x y := fun y hy => by
    have hs := h.srt
    rcases List.mem_append.1 hy with hy | hy
    · obtain ⟨j, hj⟩ := List.getElem?_of_mem hy
      rw [List.getElem?_take] at hj
      split at hj
      · rename_i hjb; exact .inl (h1 j y hjb hj)
      · cases hj
    · obtain ⟨j, hj⟩ := List.getElem?_of_mem hy
      rw [List.getElem?_drop] at hj
      have := h2 _ y hj
      by_cases he : dur x = dur y
      · refine .inr ⟨he, ?_⟩
        have hjl := (List.getElem?_eq_some_iff.1 hj).1
        have := List.pairwise_iff_getElem.1 hs b (b + 1 + j) hb hjl (by omega)
        rw [(List.getElem?_eq_some_iff.1 hj).2, (List.getElem?_eq_some_iff.1 hx).2] at this
        exact this
      · exact .inl (by omega)
  have hsub : (rest.take b ++ rest.drop (b + 1)).Sublist rest := by
    have : (rest.take b ++ rest.drop (b + 1)).Sublist (rest.take b ++ x :: rest.drop (b + 1)) := List.Sublist.append (List.Sublist.refl _) (List.sublist_cons_self _ _)
    rw [← e] at this; exact this
  refine ⟨h.srt.sublist hsub, ?_, ?_, ?_, .inl (by simp; omega)⟩
  · refine List.Perm.trans ?_ h.perm
    rw [List.append_assoc]
    refine List.Perm.append_left want ?_
    have : ([x] ++ (rest.take b ++ rest.drop (b + 1))).Perm (rest.take b ++ x :: rest.drop (b + 1)) := (List.perm_middle (a := x) (l₁ := rest.take b) (l₂ := rest.drop (b + 1))).symm
    rw [← e] at this; exact this
  · refine List.pairwise_append.2 ⟨h.wlt, by simp, fun w hw y hy => ?_⟩
    have : y = x := by simpa using hy
    subst this
    exact h.less w hw y (mem_of_get hx)
  · intro w hw y hy
    rcases List.mem_append.1 hw with hw | hw
    · exact h.less w hw y (hsub.subset hy)
    · have : w = x := by simpa using hw
      subst this
      exact hlt y hy

theorem grp_svc (level : Int) (y : TSpan) : (grp level y).service = y.service := by
  unfold grp
  repeat' split
  all_goals rfl

theorem none_svcs : ¬ (⟨#[110, 111, 110, 101]⟩ : ByteArray) ∈ svcs := by
  unfold svcs
  simp only [List.mem_cons, List.not_mem_nil, or_false]
  decide

theorem W11_of {s : TStory} (hw : s.wf) {a : TA28} (ha : a.wf) {n : Int} {K : Bool → Prop} (h : K true) : W11 s a n K := by
  unfold W11
  refine W12_of (cond_not (fun h => by cases h) fun _ => W13_of hw ha fun l0 hl0 => W23_of hl0 (by omega) (by omega) fun l hby => ?_)
  have hlen : l.length ≤ 12 := isby_len hby fun g hg => hasG_good hl0 hg
  have hs := hby.sorted
  have none : ∀ x ∈ l, x.group ≠ TGroup.mk (⟨#[110, 111, 110, 101]⟩ : ByteArray) (⟨#[]⟩ : ByteArray) (⟨#[]⟩ : ByteArray) := fun x hx e => by
    obtain ⟨y, hy, e2⟩ := hasG_good hl0 ((hby.mem x.group).1 ⟨x, hx, rfl⟩)
    have h1 : x.group.service = y.service := by rw [e2]; exact grp_svc 3 y
    have := hy.svc
    rw [← h1, e] at this
    exact none_svcs this
  refine loop_idx l.length (fun i (v : Int × Int × Int × Int × Int) => v.2.2.2.2 = (i : Int) ∧ TTotal.mk v.1 v.2.1 v.2.2.1 v.2.2.2.1 = sumW l i) ⟨rfl, rfl⟩ ?_
  rintro i ⟨c1, c2, c3, c4, v⟩ N hi ⟨rfl, hv⟩ hN
  dsimp only at hv ⊢
  unfold L11_1
  refine cond_dec (fun hlt => idx_nat (by omega) fun x hx => W33_at (by omega) hs hx ?_) fun hge => ?_
  · rw [eqT]
    refine cond_not (fun hne => absurd rfl (of_decide_eq_false hne)) fun _ => ?_
    unfold W15
    rw [w64_in (n := (i : Int) + 1) (by omega) (by omega)]
    refine hN _ (by omega) ⟨by simp, ?_⟩
    rw [sumW_succ hx, ← hv]
    rfl
  · have hil : i = l.length := by omega
    subst hil
    refine fits_of (by omega) ?_
    refine loop_of (fun (v : List TLine × List TLine) => Picked l n v.1 v.2) (fun v => v.1.length) ⟨hs, .refl _, .nil, by simp, .inr rfl⟩ ?_
    rintro ⟨rest, want⟩ N hp hN
    dsimp only at hp ⊢
    have htl : want.length + rest.length = l.length := by have := hp.perm.length_eq; simpa using this
    unfold L11_2
    -- the end
    have fin : (n ≤ (want.length : Int) ∨ rest = []) → J11_3 rest want N l c1 c2 c3 c4 n K false := fun hend => by
      unfold J11_3
      refine ⟨fun h => (by cases h), fun _ => W34_of (by omega) ?_⟩
      have e1 : sumW l l.length = ⟨c1, c2, c3, c4⟩ := hv.symm
      rw [e1]
      have e2 : (decide ((TTotal.mk c1 c2 c3 c4).spans = c1) && (decide ((TTotal.mk c1 c2 c3 c4).errors = c2) && (decide ((TTotal.mk c1 c2 c3 c4).duration = c3) && (decide ((TTotal.mk c1 c2 c3 c4).traces = c4) && true)))) = true := by simp
      rw [e2]
      refine ⟨fun _ => W35_of hlen hs fun r hr hrt => ?_, fun h => (by cases h)⟩
      have hk : (if 0 < n then (if n < (l.length : Int) then n.toNat else l.length) else 0) = want.length := by
        have hln := hp.len
        rcases hend with hend | hend
        · rcases hln with h1 | h1
          · split
            · split <;> omega
            · omega
          · subst h1
            simp only [List.length_nil] at hend ⊢
            split
            · omega
            · rfl
        · subst hend
          simp only [List.length_nil] at htl
          rcases hln with h1 | h1
          · split
            · split <;> omega
            · omega
          · subst h1
            simp only [List.length_nil] at htl ⊢
            split
            · split <;> omega
            · rfl
      rw [hk, pick_prefix hrt (hr.trans hp.perm.symm) hp.wlt hp.less]
      refine W22_of (by omega) fun q hq => ?_
      have : q = true := hq.2 rfl
      subst this
      refine ⟨fun _ => W33_none (by omega) none ?_, fun h => (by cases h)⟩
      unfold J11_6
      exact h
    refine cond_dec (fun hwn => ?_) fun hwn => fin (.inl (by omega))
    by_cases hr0 : (rest.length : Int) > 0
    · rw [decide_eq_true hr0]
      unfold J11_3
      refine ⟨fun _ => ?_, fun h => (by cases h)⟩
      refine loop_idx rest.length (fun k (v : Int × Int) => v.2 = (k : Int) + 1 ∧ ∃ (b : Nat) (x : TLine), v.1 = (b : Int) ∧ b ≤ k ∧ rest[b]? = some x ∧ (∀ (j : Nat) (y : TLine), j < b → rest[j]? = some y → dur y < dur x) ∧ ∀ (j : Nat) (y : TLine), j ≤ k → rest[j]? = some y → dur y ≤ dur x)
        ⟨rfl, 0, rest[0]'(by omega), rfl, Nat.le_refl _, by simp, fun j y h => by omega, fun j y h hy => ?_⟩ ?_
      · have : j = 0 := by omega
        subst this
        have : y = rest[0]'(by omega) := (List.getElem?_eq_some_iff.1 hy).2.symm
        rw [this]; exact Int.le_refl _
      rintro k ⟨b', v⟩ N' hk ⟨rfl, b, x, rfl, hbk, hx, h1, h2⟩ hN'
      dsimp only
      have hbl := (List.getElem?_eq_some_iff.1 hx).1
      unfold L11_4
      refine cond_dec (fun hlt => ?_) fun hge => ?_
      · have e1 : ((k : Int) + 1) = ((k + 1 : Nat) : Int) := by omega
        rw [e1]
        refine idx_nat (by omega) fun y hy => idx_nat hbl fun x' hx' => ?_
        rw [hx] at hx'; cases hx'
        have e2 : w64 (((k + 1 : Nat) : Int) + 1) = ((k + 1 : Nat) : Int) + 1 := w64_in (by omega) (by omega)
        unfold J11_5
        rw [e2]
        refine cond_dec (fun hgt => ?_) fun hle => ?_
        · have hgt : dur x < dur y := hgt
          refine hN' _ (by omega) ⟨rfl, k + 1, y, rfl, Nat.le_refl _, hy, fun j z hj hz => ?_, fun j z hj hz => ?_⟩
          · have := h2 j z (by omega) hz; omega
          · by_cases e : j = k + 1
            · subst e; rw [hy] at hz; cases hz; exact Int.le_refl _
            · have := h2 j z (by omega) hz; omega
        · have hle : dur y ≤ dur x := Int.not_lt.1 hle
          refine hN' _ (by omega) ⟨rfl, b, x, rfl, by omega, hx, h1, fun j z hj hz => ?_⟩
          by_cases e : j = k + 1
          · subst e; rw [hy] at hz; cases hz; exact hle
          · exact h2 j z (by omega) hz
      · refine idx_nat hbl fun x' hx' => ?_
        rw [hx] at hx'; cases hx'
        have e2 : w64 ((b : Int) + 1) = ((b + 1 : Nat) : Int) := by rw [w64_in (by omega) (by omega)]; omega
        rw [e2]
        have e3 : ([] ++ (List.take ((b : Int).toNat - 0) (List.drop 0 rest))) ++ (List.take (rest.length - ((b + 1 : Nat) : Int).toNat) (List.drop (((b + 1 : Nat) : Int).toNat) rest)) = rest.take b ++ rest.drop (b + 1) := by
          have : List.take (rest.length - (b + 1)) (List.drop (b + 1) rest) = rest.drop (b + 1) := List.take_of_length_le (by simp)
          simp [this]
        have e4 : (rest.take b ++ rest.drop (b + 1)).length + 1 = rest.length := by simp; omega
        rw [e3]
        refine fits_of (by simp; omega) ⟨by omega, by omega, by omega, by omega, fits_of (by simp; omega) (fits_of (by omega) ?_)⟩
        refine hN _ (pick_one hp hwn hx h1 fun j y hy => h2 j y (by have := (List.getElem?_eq_some_iff.1 hy).1; omega) hy) (by dsimp only; omega)
    · rw [decide_eq_false hr0]
      exact fin (.inr (List.eq_nil_of_length_eq_zero (by omega)))

end Go.Proofs.Ytnpdeecoejabgaa
