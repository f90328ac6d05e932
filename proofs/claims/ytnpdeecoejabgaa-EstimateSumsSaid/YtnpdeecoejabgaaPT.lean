/- PLAIN LAWS, 12: the lines in the order of their durations; finding; summing. -/
import Derived.Test.YtnpdeecoejabgaaPI
set_option maxRecDepth 100000
set_option linter.unusedSimpArgs false
set_option linter.unusedVariables false
namespace Go.Proofs.Ytnpdeecoejabgaa
open Go Go.RowKit

def dur (x : TLine) : Int := x.total.duration
def Stab (m : List TLine) : Prop := ∀ (p q : Nat) (a b : TLine), p < q → m[p]? = some a → m[q]? = some b → dur a = dur b → gl a.group b.group
/-- The order of the lines of a ranking. -/
def lt (a b : TLine) : Prop := dur b < dur a ∨ (dur a = dur b ∧ gl a.group b.group)

theorem lt_asymm {a b : TLine} (h1 : lt a b) (h2 : lt b a) : False := by
  rcases h1 with h1 | ⟨e1, h1⟩ <;> rcases h2 with h2 | ⟨e2, h2⟩
  · omega
  · omega
  · omega
  · exact gl_irrefl _ (gl_trans h1 h2)

theorem W61_of {x y : Int} {K : Int → Prop} (h : ∀ r, (r < 0 ↔ x < y) → K r) : W61 x y K := by
  unfold W61 W79
  refine cond_dec (fun h => absurd rfl h) fun _ => cond_dec (fun h => absurd rfl h) fun _ => ?_
  refine cond_dec (fun h1 => h _ (by omega)) fun h1 => cond_dec (fun h2 => h _ (by omega)) fun h2 => h _ (by omega)

theorem set2_get {m : List TLine} {j : Nat} {x y : TLine} (h0 : 0 < j) (hjl : j < m.length) (p : Nat) (a : TLine) (ha : ((m.set j y).set (j - 1) x)[p]? = some a) : (p = j - 1 ∧ a = x) ∨ (p = j ∧ a = y) ∨ (p ≠ j - 1 ∧ p ≠ j ∧ m[p]? = some a) := by
  by_cases e : p = j - 1
  · subst e
    rw [List.getElem?_set_self (by simp; omega)] at ha
    exact .inl ⟨rfl, (Option.some.inj ha).symm⟩
  · rw [List.getElem?_set_ne (Ne.symm e)] at ha
    by_cases e' : p = j
    · subst e'
      rw [List.getElem?_set_self hjl] at ha
      exact .inr (.inl ⟨rfl, (Option.some.inj ha).symm⟩)
    · rw [List.getElem?_set_ne (Ne.symm e')] at ha
      exact .inr (.inr ⟨e, e', ha⟩)

theorem stab_swap {m : List TLine} {j : Nat} {x y : TLine} (h0 : 0 < j) (hx : m[j]? = some x) (hy : m[j - 1]? = some y) (hd : dur y < dur x) (hs : Stab m) : Stab ((m.set j y).set (j - 1) x) := by
  have hjl := (List.getElem?_eq_some_iff.1 hx).1
  intro p q a b hpq ha hb he
  rcases set2_get h0 hjl p a ha with ⟨rfl, rfl⟩ | ⟨rfl, rfl⟩ | ⟨k1, k2, k5⟩
  · rcases set2_get h0 hjl q b hb with ⟨rfl, _⟩ | ⟨rfl, rfl⟩ | ⟨k3, k4, hb⟩
    · omega
    · omega
    · exact hs j q _ b (by omega) hx hb he
  · rcases set2_get h0 hjl q b hb with ⟨rfl, _⟩ | ⟨rfl, _⟩ | ⟨k3, k4, hb⟩
    · omega
    · omega
    · exact hs (p - 1) q _ b (by omega) hy hb he
  · rcases set2_get h0 hjl q b hb with ⟨rfl, rfl⟩ | ⟨rfl, rfl⟩ | ⟨k3, k4, hb⟩
    · exact hs p j a _ (by omega) k5 hx he
    · exact hs p (q - 1) a _ (by omega) k5 hy he
    · exact hs p q a b hpq k5 hb he

theorem W88d_of {data : List TLine} (hl : data.length ≤ 1000) (hst : Stab data) {K : List TLine → Prop} (h : ∀ r, r.Perm data → r.Pairwise lt → K r) : W88c60 data 0 (data.length : Int) K := by
  unfold W88c60
  have e1 : w64 ((0 : Int) + 1) = 1 := by decide
  rw [e1]
  refine loop_of (fun (v : List TLine × Int) => v.1.Perm data ∧ Stab v.1 ∧ 1 ≤ v.2 ∧ (v.2 ≤ data.length ∨ v.2 = 1) ∧ ∀ (p q : Nat) (a b : TLine), p < q → (q : Int) < v.2 → v.1[p]? = some a → v.1[q]? = some b → dur b ≤ dur a) (fun v => (data.length - v.2).toNat)
    ⟨.refl _, hst, by simp, .inr rfl, fun p q a b h1 h2 => by dsimp only at h2; omega⟩ ?_
  rintro ⟨l, i⟩ N ⟨hp, hst, hi1, hi2, hs⟩ hN
  dsimp only at hp hst hi1 hi2 hs ⊢
  have hlen : l.length = data.length := hp.length_eq
  unfold L88c60_1
  refine cond_dec (fun hlt => ?_) fun hge => ?_
  · have e2 : w64 (i + 1) = i + 1 := w64_in (by omega) (by omega)
    refine loop_of (fun (v : List TLine × Int) => v.1.Perm data ∧ Stab v.1 ∧ 0 ≤ v.2 ∧ v.2 ≤ i ∧ (∀ (p q : Nat) (a b : TLine), p < q → (q : Int) ≤ i → (p : Int) ≠ v.2 → (q : Int) ≠ v.2 → v.1[p]? = some a → v.1[q]? = some b → dur b ≤ dur a) ∧
        ∀ (q : Nat) (a b : TLine), v.2 < (q : Int) → (q : Int) ≤ i → v.1[v.2.toNat]? = some a → v.1[q]? = some b → dur b ≤ dur a) (fun v => v.2.toNat)
      ⟨hp, hst, by omega, by omega, fun p q a b h1 h2 h3 h4 => hs p q a b h1 (by dsimp only at h4; omega), fun q a b h1 h2 => by dsimp only at h1; omega⟩ ?_
    rintro ⟨m, j⟩ N' ⟨gp, gst, gj1, gj2, P1, P2⟩ hN'
    dsimp only at gp gst gj1 gj2 P1 P2 ⊢
    have hml : m.length = data.length := gp.length_eq
    unfold L88c60_2
    -- the way out
    have out : (∀ (p : Nat) (a b : TLine), (p : Int) < j → m[p]? = some a → m[j.toNat]? = some b → dur b ≤ dur a) → J88c60_3 m j N' N i false := by
      intro hout
      unfold J88c60_3
      refine ⟨fun h => (by cases h), fun _ => ?_⟩
      rw [e2]
      refine hN _ ⟨gp, gst, by dsimp only; omega, .inl (by dsimp only; omega), fun p q a b h1 h2 ha hb => ?_⟩ (by dsimp only; omega)
      dsimp only at h2 ha hb
      by_cases hpj : (p : Int) = j
      · subst hpj
        exact P2 q a b (by omega) (by omega) (by simpa using ha) hb
      · by_cases hqj : (q : Int) = j
        · subst hqj
          exact hout p a b (by omega) ha (by simpa using hb)
        · exact P1 p q a b h1 (by omega) hpj hqj ha hb
    refine cond_dec (fun hj0 => ?_) fun hj0 => out fun p a b h1 => by omega
    have e3 : w64 (j - 1) = j - 1 := w64_in (by omega) (by omega)
    rw [e3]
    have e4 : (j - 1).toNat = j.toNat - 1 := by omega
    refine idx_of (by omega) (by omega) fun x hx => idx_of (by omega) (by omega) fun y hy => ?_
    unfold W60
    refine W61_of fun r hr => ?_
    rw [e4] at hy
    by_cases hc : r < 0
    · have : decide (r < 0) = true := decide_eq_true hc
      rw [this]
      have hc : dur y < dur x := hr.1 hc
      unfold J88c60_3
      refine ⟨fun _ => ?_, fun h => (by cases h)⟩
      rw [e3]
      have hjl : j.toNat < m.length := by omega
      have hjl2 : j.toNat - 1 < m.length := by omega
      refine idx_of (by omega) (by omega) fun y' hy' => idx_of (by omega) (by omega) fun x' hx' => ?_
      rw [e4, hy] at hy'; cases hy'
      rw [hx] at hx'; cases hx'
      refine idx_of (by omega) (by simp; omega) fun _ _ => ?_
      rw [e4]
      have hget := set2_get (x := x) (y := y) (show 0 < j.toNat by omega) hjl
      refine hN' _ ⟨?_, stab_swap (by omega) hx hy hc gst, by dsimp only; omega, by dsimp only; omega, ?_, ?_⟩ (by dsimp only; omega)
      · dsimp only
        refine List.Perm.trans ?_ gp
        have := List.set_set_perm hjl hjl2
        rw [(List.getElem?_eq_some_iff.1 hx).2, (List.getElem?_eq_some_iff.1 hy).2] at this
        exact this
      · intro p q a b h1 h2 h3 h4 ha hb
        dsimp only at h3 h4 ha hb
        rcases hget p a ha with ⟨rfl, _⟩ | ⟨rfl, rfl⟩ | ⟨k1, k2, ha'⟩
        · omega
        · rcases hget q b hb with ⟨rfl, _⟩ | ⟨rfl, _⟩ | ⟨k3, k4, hb⟩
          · omega
          · omega
          · exact P1 (j.toNat - 1) q _ b (by omega) h2 (by omega) (by omega) hy hb
        · rcases hget q b hb with ⟨rfl, _⟩ | ⟨rfl, rfl⟩ | ⟨k3, k4, hb⟩
          · omega
          · exact P1 p (j.toNat - 1) a _ (by omega) (by omega) (by omega) (by omega) ha' hy
          · exact P1 p q a b h1 h2 (by omega) (by omega) ha' hb
      · intro q a b h1 h2 ha hb
        dsimp only at h1 ha hb
        rw [e4] at ha
        rcases hget _ a ha with ⟨_, rfl⟩ | ⟨k, _⟩ | ⟨k, _⟩
        · rcases hget q b hb with ⟨rfl, _⟩ | ⟨rfl, rfl⟩ | ⟨k3, k4, hb⟩
          · omega
          · omega
          · exact P2 q _ b (by omega) h2 hx hb
        · omega
        · omega
    · have : decide (r < 0) = false := decide_eq_false hc
      rw [this]
      have hc : ¬ dur y < dur x := fun h => hc (hr.2 h)
      refine out fun p a b h1 ha hb => ?_
      rw [hx] at hb; cases hb
      by_cases e : (p : Int) = j - 1
      · have : p = j.toNat - 1 := by omega
        subst this
        rw [hy] at ha; cases ha
        omega
      · have := P1 p (j.toNat - 1) a y (by omega) (by omega) (by omega) (by omega) ha hy
        omega
  · refine ⟨hlen, h l hp ?_⟩
    refine List.pairwise_iff_getElem.2 fun p q hp' hq' hpq => ?_
    have h1 := hs p q l[p] l[q] hpq (by omega) (by simp) (by simp)
    by_cases e : dur l[p] = dur l[q]
    · exact .inr ⟨e, hst p q _ _ hpq (by simp) (by simp) e⟩
    · exact .inl (by omega)

theorem ssorted_stab {l : List TLine} (h : SSorted l) : Stab l := fun p q a b hpq ha hb _ => by
  have h1 := (List.getElem?_eq_some_iff.1 ha).1
  have h2 := (List.getElem?_eq_some_iff.1 hb).1
  have := List.pairwise_iff_getElem.1 h p q h1 h2 hpq
  rw [(List.getElem?_eq_some_iff.1 ha).2, (List.getElem?_eq_some_iff.1 hb).2] at this
  exact this

/-- The first n lines of the ranking. -/
theorem W35_of {l : List TLine} (hl : l.length ≤ 12) (hs : SSorted l) {n : Int} {K : List TLine → Prop} (h : ∀ r : List TLine, r.Perm l → r.Pairwise lt → K (r.take (if 0 < n then (if n < l.length then n.toNat else l.length) else 0))) : W35 l n K := by
  unfold W35 W58
  have go : W59c60 l fun r => 0 ≤ (if (if (r.length : Int) < n then (r.length : Int) else n) > 0 then (if (r.length : Int) < n then (r.length : Int) else n) else 0) ∧ (if (if (r.length : Int) < n then (r.length : Int) else n) > 0 then (if (r.length : Int) < n then (r.length : Int) else n) else 0) ≤ (r.length : Int) ∧ (K (List.take ((if (if (r.length : Int) < n then (r.length : Int) else n) > 0 then (if (r.length : Int) < n then (r.length : Int) else n) else 0).toNat - 0) (List.drop 0 r))) := by
    unfold W59c60 W78c60
    refine ⟨fun k s => k = 0, ⟨0, rfl⟩, fun k s _ => ?_⟩
    unfold L78c60_1
    refine ⟨decide_eq_false (by omega), ?_⟩
    refine W88d_of (by omega) (ssorted_stab hs) fun r hp ht => ?_
    · refine ⟨fun k s => k = 0, ⟨0, rfl⟩, fun k s _ => ?_⟩
      unfold L78c60_2
      have hlen := hp.length_eq
      refine ⟨decide_eq_false (by omega), hlen, hlen, ?_⟩
      have := h r hp ht
      simp only [hlen]
      refine ⟨by split <;> omega, by repeat' split <;> omega, ?_⟩
      have e : (if (if (l.length : Int) < n then (l.length : Int) else n) > 0 then (if (l.length : Int) < n then (l.length : Int) else n) else 0).toNat - 0 = (if 0 < n then (if n < l.length then n.toNat else l.length) else 0) := by
        repeat' split
        all_goals omega
      rw [e, List.drop_zero]; exact this
  intro b hb
  refine cond_bool (fun h1 => ?_) fun h1 => fits_of (by simp; omega) ?_
  · rw [← hb h1]; exact go
  · rw [List.nil_append]; exact go

/-! ### Finding -/
theorem W33_at {l : List TLine} (hl : l.length ≤ 1000) (hs : SSorted l) {i : Nat} {x : TLine} (hx : l[i]? = some x) {K : TTotal → Prop} (h : K x.total) : W33 l x.group K := by
  unfold W33
  have hil := (List.getElem?_eq_some_iff.1 hx).1
  refine loop_idx i (fun k v => v = (k : Int)) rfl ?_
  rintro k v N hk rfl hN
  unfold L33_1
  refine cond_dec (fun _ => idx_nat (by omega) fun y hy => ?_) fun hn => absurd (by omega) hn
  rw [eqG]
  refine cond_dec (fun he => ?_) fun hne => ?_
  · by_cases e : k = i
    · subst e; rw [hx] at hy; cases hy; exact h
    · have hkl := (List.getElem?_eq_some_iff.1 hy).1
      have := List.pairwise_iff_getElem.1 hs k i hkl hil (by omega)
      rw [(List.getElem?_eq_some_iff.1 hy).2, (List.getElem?_eq_some_iff.1 hx).2, he] at this
      exact absurd this (gl_irrefl _)
  · have e : k ≠ i := fun e => by subst e; rw [hx] at hy; cases hy; exact hne rfl
    rw [w64_in (by omega) (by omega)]
    exact hN _ (by omega) (by simp)
theorem W33_none {l : List TLine} (hl : l.length ≤ 1000) {g : TGroup} (hg : ∀ x ∈ l, x.group ≠ g) {K : TTotal → Prop} (h : K ⟨0, 0, 0, 0⟩) : W33 l g K := by
  unfold W33
  refine loop_idx l.length (fun k v => v = (k : Int)) rfl ?_
  rintro k v N hk rfl hN
  unfold L33_1
  refine cond_dec (fun _ => idx_nat (by omega) fun y hy => ?_) fun _ => h
  rw [eqG]
  refine cond_dec (fun he => absurd he (hg y (mem_of_get hy))) fun _ => ?_
  rw [w64_in (by omega) (by omega)]
  exact hN _ (by omega) (by simp)

/-! ### Summing -/
def addW (a b : TTotal) : TTotal := ⟨w64 (a.spans + b.spans), w64 (a.errors + b.errors), w64 (a.duration + b.duration), w64 (a.traces + b.traces)⟩
def sumW (l : List TLine) (i : Nat) : TTotal := (l.take i).foldl (fun t x => addW t x.total) ⟨0, 0, 0, 0⟩
theorem sumW_succ {l : List TLine} {i : Nat} {x : TLine} (hx : l[i]? = some x) : sumW l (i + 1) = addW (sumW l i) x.total := by
  unfold sumW
  rw [take_snoc hx, List.foldl_append]
  rfl
theorem eqT (a b : TTotal) : (decide (a.spans = b.spans) && (decide (a.errors = b.errors) && (decide (a.duration = b.duration) && (decide (a.traces = b.traces) && true)))) = decide (a = b) := by
  cases a; cases b
  simp only [TTotal.mk.injEq, Bool.and_true, Bool.decide_and]

theorem W34_of {l : List TLine} (hl : l.length ≤ 1000) {K : TTotal → Prop} (h : K (sumW l l.length)) : W34 l K := by
  unfold W34
  refine loop_idx l.length (fun i (v : Int × Int × Int × Int × Int) => v.2.2.2.2 = (i : Int) ∧ TTotal.mk v.1 v.2.1 v.2.2.1 v.2.2.2.1 = sumW l i) ⟨rfl, rfl⟩ ?_
  rintro i ⟨a, b, c, d, v⟩ N hi ⟨rfl, hv⟩ hN
  dsimp only at hv ⊢
  unfold L34_1 W39
  refine cond_dec (fun hlt => idx_nat (by omega) fun x hx => ?_) fun hge => ?_
  · rw [w64_in (n := (i : Int) + 1) (by omega) (by omega)]
    refine hN _ (by omega) ⟨by simp, ?_⟩
    rw [sumW_succ hx, ← hv]
    rfl
  · have : i = l.length := by omega
    subst this
    rw [hv]; exact h

/-! ### A ranking begins with what is chosen one by one -/
theorem pick_prefix : ∀ {want r rest : List TLine}, r.Pairwise lt → r.Perm (want ++ rest) → want.Pairwise lt → (∀ w ∈ want, ∀ y ∈ rest, lt w y) → r.take want.length = want
  | [], r, rest, _, _, _, _ => by simp
  | w :: ws, [], rest, _, hp, _, _ => by have := hp.length_eq; simp at this
  | w :: ws, c :: r, rest, hr, hp, hw, hx => by
    have hc : c ∈ w :: (ws ++ rest) := by
      have := hp.mem_iff.1 (List.mem_cons_self (a := c) (l := r))
      simpa using this
    have hwm : w ∈ c :: r := hp.mem_iff.2 (by simp)
    have e : c = w := by
      rcases List.mem_cons.1 hc with e | hc
      · exact e
      · rcases List.mem_cons.1 hwm with e | hwm
        · exact e.symm
        · have h1 : lt c w := (List.pairwise_cons.1 hr).1 w hwm
          have h2 : lt w c := by
            rcases List.mem_append.1 hc with hc | hc
            · exact (List.pairwise_cons.1 hw).1 c hc
            · exact hx w (by simp) c hc
          exact (lt_asymm h1 h2).elim
    subst e
    have hp' : r.Perm (ws ++ rest) := by
      have : (c :: r).Perm (c :: (ws ++ rest)) := hp
      exact this.cons_inv
    rw [List.length_cons, List.take_succ_cons, pick_prefix (List.pairwise_cons.1 hr).2 hp' (List.pairwise_cons.1 hw).2 fun w hw y hy => hx w (by simp [hw]) y hy]

end Go.Proofs.Ytnpdeecoejabgaa
