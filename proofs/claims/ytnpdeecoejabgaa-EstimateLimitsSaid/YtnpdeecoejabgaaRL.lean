/- EstimateLimits: its function returns true. -/
import Derived.Test.YtnpdeecoejabgaaPJ
set_option maxRecDepth 100000
set_option linter.unusedSimpArgs false
set_option linter.unusedVariables false
namespace Go.Proofs.Ytnpdeecoejabgaa
open Go Go.RowKit

def cs (s v o : ByteArray) (i : Int) : TSpan := TSpan.mk 9 i 0 0 1 3 s v o 0 0 false [] []
def csL (s v o : ByteArray) (n : Nat) : List TSpan := (List.range n).map fun (i : Nat) => cs s v o ((i : Int) + 1)

theorem csL_get {s v o : ByteArray} {n i : Nat} {x : TSpan} (h : (csL s v o n)[i]? = some x) : x = cs s v o ((i : Int) + 1) := by
  unfold csL at h
  rw [List.getElem?_map] at h
  obtain ⟨j, hj, rfl⟩ := Option.map_eq_some_iff.1 h
  rw [List.getElem?_range (by have := (List.getElem?_eq_some_iff.1 hj).1; simpa using this)] at hj
  cases hj; rfl
theorem csL_len (s v o : ByteArray) (n : Nat) : (csL s v o n).length = n := by simp [csL]
theorem csL_snoc (s v o : ByteArray) (n : Nat) : csL s v o n ++ [cs s v o ((n : Int) + 1)] = csL s v o (n + 1) := by simp [csL, List.range_succ]

theorem cs_one (s v o : ByteArray) (hs : s.size ≤ 100) (hv : v.size ≤ 100) (ho : o.size ≤ 100) : ∃ r, ∀ (i : Int), 1 ≤ i → i ≤ 4097 → ∀ K, K r → W32 (cs s v o i) K := by
  obtain ⟨r, hr⟩ := J32_2_det (cs s v o 1) ⟨by unfold lenOk cs; dsimp only; omega, by unfold lenOk cs; dsimp only; omega, by unfold lenOk cs; dsimp only; omega, by simp [cs], by simp [cs], by simp [cs]⟩ false
  refine ⟨r, fun i h1 h2 K hK => ?_⟩
  unfold W32
  refine W53_of fun q hq => ?_
  have : q = false := hq.2 (by unfold cs; dsimp only; omega)
  subst this
  refine ⟨fun h => (by cases h), fun _ => W53_of fun q hq => ?_⟩
  have : q = false := hq.2 (by unfold cs; dsimp only; omega)
  subst this
  refine ⟨fun h => (by cases h), fun _ => cond_dec (fun h => ?_) fun _ => cond_dec (fun h => ?_) fun _ => cond_dec (fun h => ?_) fun _ => cond_dec (fun h => ?_) fun _ => cond_dec (fun h => ?_) fun _ => ?_⟩
  · unfold cs at h; dsimp only at h; omega
  · unfold cs at h; dsimp only at h; omega
  · unfold cs at h; dsimp only at h; omega
  · unfold cs at h; dsimp only at h; omega
  · unfold cs at h; dsimp only at h; omega
  · have e : decide ((cs s v o i).clock > 1048576) = false := rfl
    rw [e]
    unfold J32_1
    refine ⟨fun h => (by cases h), fun _ => cond_dec (fun h => ?_) fun _ => ?_⟩
    · unfold cs at h; dsimp only at h; omega
    · have e : decide ((cs s v o i).kind > 5) = false := rfl
      rw [e]
      exact hr K hK

theorem W30_cs {s v o : ByteArray} {r : Int} (hr : ∀ (i : Int), 1 ≤ i → i ≤ 4097 → ∀ K, K r → W32 (cs s v o i) K) {n : Nat} (h1 : 1 ≤ n) (h2 : n ≤ 4097) {K : Int → Prop} (h : K (if r ≠ 0 then r else if n > 4096 then 6 else 0)) : W30 [TTrace.mk 9 1 (csL s v o n)] K := by
  unfold W30
  refine loop_idx 1 (fun i (q : Int × Int) => q.2 = (i : Int) ∧ (i = 0 → q.1 = 0) ∧ (i = 1 → q.1 = (n : Int) ∧ r = 0)) ⟨rfl, fun _ => rfl, fun h => by omega⟩ ?_
  rintro i ⟨a, q⟩ N hi ⟨rfl, g0, g1⟩ hN
  dsimp only at g0 g1 ⊢
  unfold L30_1
  refine cond_dec (fun hlt => ?_) fun hge => ?_
  · have : i = 0 := by simp at hlt; omega
    subst this
    have ha := g0 rfl
    subst ha
    refine idx_nat (by simp) fun t ht => ?_
    have ht : t = TTrace.mk 9 1 (csL s v o n) := by simpa using ht.symm
    subst ht
    refine cond_dec (fun h => by dsimp only at h; omega) fun _ => cond_dec (fun h => by dsimp only at h; omega) fun _ => cond_dec (fun h => by dsimp only at h; omega) fun _ => ?_
    have e : decide ((TTrace.mk 9 1 (csL s v o n)).weight > 1024) = false := rfl
    rw [e]
    unfold J30_2
    refine ⟨fun h => (by cases h), fun _ => cond_dec (fun h => by simp at h) fun _ => ?_⟩
    unfold J30_3
    refine ⟨fun h => (by cases h), fun _ => ?_⟩
    refine loop_idx n (fun k (q : Int) => q = (k : Int) ∧ (0 < k → r = 0)) ⟨rfl, fun h => by omega⟩ ?_
    rintro k q N' hk ⟨rfl, hz⟩ hN'
    unfold L30_4
    dsimp only
    rw [csL_len]
    refine cond_dec (fun hlt2 => ?_) fun hge2 => ?_
    · refine idx_nat (by rw [csL_len]; omega) fun x hx => ?_
      have := csL_get hx
      subst this
      refine hr _ (by omega) (by omega) _ (cond_dec (fun hne => ?_) fun heq => ?_)
      · rw [if_pos hne] at h; exact h
      · have heq : r = 0 := Decidable.not_not.1 heq
        refine cond_dec (fun hne => absurd rfl hne) fun _ => ?_
        have fin : J30_5 K N' (k : Int) false := by
          unfold J30_5
          refine ⟨fun h => (by cases h), fun _ => ?_⟩
          rw [w64_in (by omega) (by omega)]
          exact hN' _ (by omega) ⟨by simp, fun _ => heq⟩
        refine cond_dec (fun hp => ?_) fun _ => fin
        have e1 : w64 ((k : Int) - 1) = ((k - 1 : Nat) : Int) := by rw [w64_in (by omega) (by omega)]; omega
        rw [e1]
        refine idx_nat (by rw [csL_len]; omega) fun y hy => ?_
        have := csL_get hy
        subst this
        have : decide ((cs s v o ((k : Int) + 1)).id ≤ (cs s v o (((k - 1 : Nat) : Int) + 1)).id) = false := decide_eq_false (by unfold cs; dsimp only; omega)
        rw [this]
        exact fin
    · have : k = n := by omega
      subst this
      rw [w64_in (n := (0 : Int) + k) (by omega) (by omega)]
      have e2 : w64 (((0 : Nat) : Int) + 1) = 1 := by decide
      rw [e2]
      exact hN _ (by omega) ⟨by simp, fun h => by omega, fun _ => ⟨by dsimp only; omega, hz (by omega)⟩⟩
  · have : i = 1 := by simp at hge; omega
    subst this
    obtain ⟨ha, hr0⟩ := g1 rfl
    rw [if_neg (by simpa using hr0)] at h
    refine cond_dec (fun hg => ?_) fun hg => ?_
    · rw [if_pos (by omega)] at h; exact h
    · rw [if_neg (by omega)] at h; exact h

theorem W10_of {s v o : ByteArray} {K : Bool → Prop} (h : K true) : W10 s v o K := by
  unfold W10
  have yes : J10_1 K s v o true := by
    unfold J10_1
    exact ⟨fun _ => W12_of h, fun h => by cases h⟩
  refine W12_of (cond_not (fun h => by cases h) fun _ => cond_dec (fun _ => yes) fun h1 => cond_dec (fun _ => yes) fun h2 => ?_)
  by_cases h3 : (o.size : Int) > 100
  · rw [decide_eq_true h3]; exact yes
  · rw [decide_eq_false h3]
    unfold J10_1
    refine ⟨fun h => (by cases h), fun _ => ?_⟩
    obtain ⟨r, hr⟩ := cs_one s v o (by omega) (by omega) (by omega)
    refine loop_idx 4096 (fun i (q : List TSpan × Int × Int) => q.2.2 = (i : Int) + 1 ∧ q.1 = csL s v o i) ⟨rfl, rfl⟩ ?_
    rintro i ⟨l, a, q⟩ N hi ⟨rfl, rfl⟩ hN
    dsimp only
    unfold L10_2
    have e0 : ∀ j : Int, TSpan.mk 9 j 0 0 1 3 s v o 0 0 false [] [] = cs s v o j := fun _ => rfl
    rw [e0, e0]
    refine cond_dec (fun hlt => ?_) fun hge => ?_
    · rw [csL_snoc]
      refine fits_of (by rw [csL_len]; omega) ?_
      rw [w64_in (by omega) (by omega)]
      exact hN _ (by omega) ⟨by simp, rfl⟩
    · have : i = 4096 := by omega
      subst this
      have e1 : csL s v o 4096 ++ [cs s v o 4097] = csL s v o 4097 := csL_snoc s v o 4096
      rw [e1]
      refine W30_cs hr (by omega) (by omega) (fits_of (by rw [csL_len]; omega) (W30_cs hr (by omega) (by omega) (hr 4097 (by omega) (by omega) _ ?_)))
      unfold J10_3
      by_cases h0 : r = 0
      · subst h0
        refine cond_dec (fun _ => ?_) fun hn => absurd rfl hn
        refine cond_dec (fun he => by simp at he) fun _ => ?_
        refine cond_dec (fun _ => ?_) fun hn => absurd rfl hn
        exact h
      · rw [if_pos h0, if_pos h0]
        refine cond_dec (fun _ => cond_dec (fun _ => cond_dec (fun _ => h) fun hn => absurd h0 hn) fun hn => absurd rfl hn) fun hn => absurd rfl hn

end Go.Proofs.Ytnpdeecoejabgaa
