/- PLAIN LAWS, 9: the references' lines of layer 25. -/
import Derived.Test.YtnpdeecoejabgaaPH
set_option maxRecDepth 100000
set_option linter.unusedSimpArgs false
set_option linter.unusedVariables false
namespace Go.Proofs.Ytnpdeecoejabgaa
open Go Go.RowKit

theorem eqG (a b : TGroup) : (decide (a.service = b.service) && (decide (a.version = b.version) && (decide (a.operation = b.operation) && true))) = decide (a = b) := by
  cases a; cases b
  simp only [TGroup.mk.injEq, Bool.and_true, Bool.decide_and]
theorem eqL (a b : TLine) : (decide (a.group.service = b.group.service) && (decide (a.group.version = b.group.version) && (decide (a.group.operation = b.group.operation) && (decide (a.total.spans = b.total.spans) && (decide (a.total.errors = b.total.errors) && (decide (a.total.duration = b.total.duration) && (decide (a.total.traces = b.total.traces) && true))))))) = decide (a = b) := by
  obtain ⟨⟨_, _, _⟩, ⟨_, _, _, _⟩⟩ := a
  obtain ⟨⟨_, _, _⟩, ⟨_, _, _, _⟩⟩ := b
  simp only [TLine.mk.injEq, TGroup.mk.injEq, TTotal.mk.injEq, Bool.and_true, Bool.decide_and, Bool.and_assoc]

theorem W21_of {x : TSpan} {level : Int} (h1 : 1 ≤ level) (h3 : level ≤ 3) {K : TGroup → Prop} (h : K (grp level x)) : W21 x level K := by
  unfold W21 J21_1 J21_2
  unfold grp at h
  refine cond_dec (fun h2 => ?_) fun h2 => ?_
  · refine cond_dec (fun h4 => ?_) fun h4 => ?_
    · have : level = 1 := by omega
      rw [if_pos this] at h; exact h
    · rw [if_neg (by omega), if_neg h2] at h; exact h
  · have h2 : level = 2 := Decidable.not_not.1 h2
    refine cond_dec (fun h4 => ?_) fun h4 => absurd (by omega) h4
    rw [if_neg (by omega), if_pos h2] at h; exact h

theorem W44_of {a b : TGroup} {K : Bool → Prop} (h : ∀ r, (r = true ↔ gl a b) → K r) : W44 a b K := by
  unfold W44
  refine cond_dec (fun h1 => h _ ?_) fun h1 => ?_
  · rw [gl_iff]; simp [h1, sl]
  · have h1 : a.service = b.service := Decidable.not_not.1 h1
    refine cond_dec (fun h2 => h _ ?_) fun h2 => h _ ?_
    · rw [gl_iff, h1, sl_irrefl]; simp [h2, sl]
    · have h2 : a.version = b.version := Decidable.not_not.1 h2
      rw [gl_iff, h1, h2, sl_irrefl, sl_irrefl]; simp [sl]

theorem W22_of {a b : List TLine} (ha : a.length ≤ 1000) {K : Bool → Prop} (h : ∀ r, (r = true ↔ a = b) → K r) : W22 a b K := by
  unfold W22
  refine cond_dec (fun hn => h _ ⟨fun h => (by cases h), fun e => absurd (by rw [e]) hn⟩) fun hl => ?_
  have hl : (a.length : Int) = b.length := Decidable.not_not.1 hl
  refine loop_idx a.length (fun i (v : Int) => v = (i : Int) ∧ ∀ (j : Nat) (x y : TLine), j < i → a[j]? = some x → b[j]? = some y → x = y) ⟨rfl, fun j x y h => by omega⟩ ?_
  rintro i v N hi ⟨rfl, g⟩ hN
  unfold L22_1
  refine cond_dec (fun hlt => ?_) fun hge => ?_
  · refine idx_nat (by omega) fun x hx => idx_nat (by omega) fun y hy => ?_
    rw [eqL]
    refine cond_not (fun hne => h _ ⟨fun h => (by cases h), fun e => ?_⟩) fun he => ?_
    · have hne := of_decide_eq_false hne
      rw [e, hy] at hx; cases hx
      exact absurd rfl hne
    · have he := of_decide_eq_true he
      rw [w64_in (by omega) (by omega)]
      refine hN _ (by omega) ⟨by simp, fun j p q hj hp hq => ?_⟩
      by_cases e : j = i
      · subst e; rw [hx] at hp; rw [hy] at hq; cases hp; cases hq; exact he
      · exact g j p q (by omega) hp hq
  · refine h _ ⟨fun _ => ?_, fun _ => rfl⟩
    refine List.ext_getElem (by omega) fun j h1 h2 => ?_
    exact g j _ _ (by omega) (by simp) (by simp)

/-! ### Totals by scanning -/
theorem sumI_nonneg {α : Type} {f : α → Int} : ∀ {l : List α}, (∀ x ∈ l, 0 ≤ f x) → 0 ≤ sumI f l
  | [], _ => by simp [sumI]
  | x :: l, h => by
    have := h x (by simp)
    have := sumI_nonneg (f := f) (l := l) fun y hy => h y (by simp [hy])
    simp only [sumI]; omega

theorem W45_of {l : List TTrace} (hl : GoodL l) {level : Int} (h1 : 1 ≤ level) (h3 : level ≤ 3) {g : TGroup} {K : TTotal → Prop} (h : K (totP level l g)) : W45 l g level K := by
  unfold W45
  have hl3 := hl.len
  have bS : ∀ t ∈ l, ∀ n, 0 ≤ sumI (fun x => if grp level x = g then t.weight else 0) (t.spans.take n) ∧ sumI (fun x => if grp level x = g then t.weight else 0) (t.spans.take n) ≤ 128 := fun t ht n => by
    have hg := hl.all t ht
    have h8 := hg.len; have := hg.w1; have := hg.w2
    have := sumI_bound (fun x => if grp level x = g then t.weight else 0) 16 (t.spans.take n) fun x _ => by split <;> omega
    have : (t.spans.take n).length ≤ 8 := by simp; omega
    omega
  have bE : ∀ t ∈ l, ∀ n, 0 ≤ sumI (fun x => if grp level x = g ∧ x.error = true then t.weight else 0) (t.spans.take n) ∧ sumI (fun x => if grp level x = g ∧ x.error = true then t.weight else 0) (t.spans.take n) ≤ 128 := fun t ht n => by
    have hg := hl.all t ht
    have h8 := hg.len; have := hg.w1; have := hg.w2
    have := sumI_bound (fun x => if grp level x = g ∧ x.error = true then t.weight else 0) 16 (t.spans.take n) fun x _ => by split <;> omega
    have : (t.spans.take n).length ≤ 8 := by simp; omega
    omega
  have bD : ∀ t ∈ l, ∀ n, 0 ≤ sumI (fun x => if grp level x = g then t.weight * (x.end_ - x.start) else 0) (t.spans.take n) ∧ sumI (fun x => if grp level x = g then t.weight * (x.end_ - x.start) else 0) (t.spans.take n) ≤ 384000 := fun t ht n => by
    have hg := hl.all t ht
    have h8 := hg.len
    have := sumI_bound (fun x => if grp level x = g then t.weight * (x.end_ - x.start) else 0) 48000 (t.spans.take n) fun x hx => by
      have hs := hg.spans x (List.mem_of_mem_take hx)
      have := mul_bound hg.w1 hg.w2 (d := x.end_ - x.start) (by have := hs.le; omega) (by have := hs.hi; have := hs.lo; omega)
      split <;> omega
    have : (t.spans.take n).length ≤ 8 := by simp; omega
    omega
  have tot : ∀ (f : TTrace → Int) (c : Int), 0 ≤ c → (∀ t ∈ l, 0 ≤ f t ∧ f t ≤ c) → ∀ i, 0 ≤ sumI f (l.take i) ∧ sumI f (l.take i) ≤ c * 3 := fun f c hc hf i => by
    have := sumI_bound f c (l.take i) fun t ht => hf t (List.mem_of_mem_take ht)
    have h2 : (l.take i).length ≤ 3 := by simp; omega
    have h3 : c * ((l.take i).length : Int) ≤ c * 3 := Int.mul_le_mul_of_nonneg_left (by omega) hc
    omega
  have tS := tot (gS level g) 128 (by omega) fun t ht => by have := bS t ht t.spans.length; rw [List.take_length] at this; exact this
  have tE := tot (gE level g) 128 (by omega) fun t ht => by have := bE t ht t.spans.length; rw [List.take_length] at this; exact this
  have tD := tot (gD level g) 384000 (by omega) fun t ht => by have := bD t ht t.spans.length; rw [List.take_length] at this; exact this
  have tT := tot (gT level g) 16 (by omega) fun t ht => by have := (hl.all t ht).w1; have := (hl.all t ht).w2; unfold gT; split <;> omega
  refine loop_idx l.length (fun i (v : Int × Int × Int × Int × Int) => v.2.2.2.2 = (i : Int) ∧ v.1 = sumI (gS level g) (l.take i) ∧ v.2.1 = sumI (gE level g) (l.take i) ∧ v.2.2.1 = sumI (gD level g) (l.take i) ∧ v.2.2.2.1 = sumI (gT level g) (l.take i)) ⟨rfl, rfl, rfl, rfl, rfl⟩ ?_
  rintro i ⟨a1, a2, a3, a4, v⟩ N hi ⟨rfl, k1, k2, k3, k4⟩ hN
  dsimp only at k1 k2 k3 k4 ⊢
  unfold L45_1
  have q1 := tS i; have q2 := tE i; have q3 := tD i; have q4 := tT i
  have e0 : w64 ((i : Int) + 1) = (i : Int) + 1 := w64_in (by omega) (by omega)
  refine cond_dec (fun hlt => ?_) fun hge => ?_
  · have hil : i < l.length := by omega
    have hti := List.getElem?_eq_getElem hil
    have hmem := List.getElem_mem hil
    generalize l[i] = t at hti hmem
    have hgt := hl.all t hmem
    have h8 := hgt.len; have hw1 := hgt.w1; have hw2 := hgt.w2
    refine loop_idx t.spans.length (fun n (v : Int × Int × Int × Bool × Int) => v.2.2.2.2 = (n : Int) ∧ v.1 = a1 + sumI (fun x => if grp level x = g then t.weight else 0) (t.spans.take n) ∧ v.2.1 = a2 + sumI (fun x => if grp level x = g ∧ x.error = true then t.weight else 0) (t.spans.take n) ∧
      v.2.2.1 = a3 + sumI (fun x => if grp level x = g then t.weight * (x.end_ - x.start) else 0) (t.spans.take n) ∧ v.2.2.2.1 = (t.spans.take n).any (fun x => decide (grp level x = g))) ⟨rfl, by simp [sumI], by simp [sumI], by simp [sumI], rfl⟩ ?_
    rintro n ⟨b1, b2, b3, b4, v⟩ N' hn ⟨rfl, m1, m2, m3, m4⟩ hN'
    dsimp only at m1 m2 m3 m4 ⊢
    have r1 := bS t hmem n; have r2 := bE t hmem n; have r3 := bD t hmem n
    unfold L45_3
    refine idx_nat hil fun t' ht' => ?_
    rw [hti] at ht'; cases ht'
    have e1 : w64 ((n : Int) + 1) = (n : Int) + 1 := w64_in (by omega) (by omega)
    refine cond_dec (fun hlt2 => ?_) fun hge2 => ?_
    · refine idx_nat (by omega) fun x hx => W21_of h1 h3 ?_
      have hs := hgt.spans x (mem_of_get hx)
      have c1 := hs.lo; have c2 := hs.le; have c3 := hs.hi
      have hd := mul_bound hw1 hw2 (d := x.end_ - x.start) (by omega) (by omega)
      have any : (t.spans.take (n + 1)).any (fun x => decide (grp level x = g)) = (b4 || decide (grp level x = g)) := by
        rw [take_snoc hx, List.any_append, ← m4]; simp
      rw [eqG]
      refine cond_not (fun hne => ?_) fun he => ?_
      · have hne := of_decide_eq_false hne
        unfold J45_4
        rw [e1]
        refine hN' _ (by omega) ⟨by simp, ?_, ?_, ?_, ?_⟩
        · dsimp only; rw [sumI_take _ hx, m1, if_neg hne]; omega
        · dsimp only; rw [sumI_take _ hx, m2, if_neg (fun h => hne h.1)]; omega
        · dsimp only; rw [sumI_take _ hx, m3, if_neg hne]; omega
        · dsimp only; rw [any, decide_eq_false hne, Bool.or_false]
      · have he := of_decide_eq_true he
        have s1 : w64 (b1 + t.weight) = b1 + t.weight := w64_in (by omega) (by omega)
        have s2 : w64 (b2 + t.weight) = b2 + t.weight := w64_in (by omega) (by omega)
        have s3 : w64 (x.end_ - x.start) = x.end_ - x.start := w64_in (by omega) (by omega)
        have s4 : w64 (t.weight * (x.end_ - x.start)) = t.weight * (x.end_ - x.start) := w64_in (by omega) (by omega)
        have s5 : w64 (b3 + t.weight * (x.end_ - x.start)) = b3 + t.weight * (x.end_ - x.start) := w64_in (by omega) (by omega)
        have fin : ∀ b, b = b2 + (if grp level x = g ∧ x.error = true then t.weight else 0) → J45_4 N' (n : Int) (b1 + t.weight) b (b3 + t.weight * (x.end_ - x.start)) true := by
          intro b hb
          unfold J45_4
          rw [e1]
          refine hN' _ (by omega) ⟨by simp, ?_, ?_, ?_, ?_⟩
          · dsimp only; rw [sumI_take _ hx, m1, if_pos he]; omega
          · dsimp only; rw [sumI_take _ hx, hb, m2]; omega
          · dsimp only; rw [sumI_take _ hx, m3, if_pos he]; omega
          · dsimp only; rw [any, decide_eq_true he, Bool.or_true]
        rw [s1, s2, s3, s4, s5]
        refine cond_bool (fun hxe => fin _ (by rw [if_pos ⟨he, hxe⟩])) fun hxe => fin _ (by rw [if_neg (by rw [hxe]; simp)]; omega)
    · have : n = t.spans.length := by omega
      subst this
      rw [List.take_length] at m1 m2 m3 m4
      have fin : ∀ b, b = a4 + gT level g t → J45_2 N (i : Int) b b1 b2 b3 := by
        intro b hb
        unfold J45_2
        rw [e0]
        refine hN _ (by omega) ⟨by simp, ?_, ?_, ?_, ?_⟩
        · dsimp only; rw [sumI_take _ hti, ← k1, m1]; rfl
        · dsimp only; rw [sumI_take _ hti, ← k2, m2]; rfl
        · dsimp only; rw [sumI_take _ hti, ← k3, m3]; rfl
        · dsimp only; rw [sumI_take _ hti, ← k4, hb]
      refine cond_bool (fun hb => ?_) fun hb => ?_
      · rw [w64_in (by omega) (by omega)]
        exact fin _ (by unfold gT; rw [← m4, hb, if_pos rfl])
      · exact fin _ (by unfold gT; rw [← m4, hb, if_neg (by simp)]; omega)
  · have : i = l.length := by omega
    subst this
    rw [List.take_length] at k1 k2 k3 k4
    rw [k1, k2, k3, k4]
    exact h

/-! ### The references' lines -/
theorem isby_len {level : Int} {l : List TTrace} {has : TGroup → Prop} {r : List TLine} (h : IsBy level l has r) (hg : ∀ g, has g → ∃ x, GoodSpan x ∧ g = grp level x) : r.length ≤ 12 := by
  have hn : (r.map (·.group)).Nodup := by
    have := h.sorted
    unfold SSorted at this
    rw [List.nodup_iff_pairwise_ne, List.pairwise_map]
    exact this.imp (fun {a b} (hab : gl a.group b.group) (e : a.group = b.group) => gl_irrefl b.group (by rw [e] at hab; exact hab))
  have hl : (r.map (·.group)).length = r.length := by simp
  rw [← hl]
  have key : ∀ ys : List TGroup, (∀ x, GoodSpan x → grp level x ∈ ys) → ys.length ≤ 12 → (r.map (·.group)).length ≤ 12 := fun ys h2 h3 =>
    Nat.le_trans (nodup_len _ ys hn fun g hgm => by
      obtain ⟨y, hy, rfl⟩ := List.mem_map.1 hgm
      obtain ⟨x, hx, e2⟩ := hg y.group ((h.mem _).1 ⟨y, hy, rfl⟩)
      rw [e2]; exact h2 x hx) h3
  by_cases l1 : level = 1
  · exact key allG (fun x hx => by rcases grp_all level hx with h | h | h; exact h.2; exact absurd (l1.symm.trans h.1) (by decide); exact absurd l1 h.1) (by decide)
  · by_cases l2 : level = 2
    · exact key allG2 (fun x hx => by rcases grp_all level hx with h | h | h; exact absurd h.1 l1; exact h.2; exact absurd l2 h.2.1) (by decide)
    · exact key allG3 (fun x hx => by rcases grp_all level hx with h | h | h; exact absurd h.1 l1; exact absurd h.1 l2; exact h.2.2) (by decide)

theorem hasG_good {level : Int} {l : List TTrace} (hl : GoodL l) {g : TGroup} (h : hasG level l g) : ∃ x, GoodSpan x ∧ g = grp level x := by
  obtain ⟨t, ht, x, hx, e⟩ := h
  exact ⟨x, (hl.all t ht).spans x hx, e.symm⟩

theorem W23_of {l : List TTrace} (hl : GoodL l) {level : Int} (h1 : 1 ≤ level) (h3 : level ≤ 3) {K : List TLine → Prop} (h : ∀ r, IsBy level l (hasG level l) r → K r) : W23 l level K := by
  unfold W23
  have hl3 := hl.len
  refine loop_idx l.length (fun i (v : List TLine × Int) => v.2 = (i : Int) ∧ IsBy level l (hasG level (l.take i)) v.1) ⟨rfl, ⟨.nil, by simp, fun g => by simp [hasG]⟩⟩ ?_
  rintro i ⟨r, v⟩ N hi ⟨rfl, hr⟩ hN
  dsimp only at hr ⊢
  unfold L23_1
  have e0 : w64 ((i : Int) + 1) = (i : Int) + 1 := w64_in (by omega) (by omega)
  refine cond_dec (fun hlt => ?_) fun hge => ?_
  · have hil : i < l.length := by omega
    have hti := List.getElem?_eq_getElem hil
    have hmem := List.getElem_mem hil
    generalize l[i] = t at hti hmem
    have hgt := hl.all t hmem
    have h8 := hgt.len
    refine loop_idx t.spans.length (fun n (v : List TLine × Int) => v.2 = (n : Int) ∧ IsBy level l (fun g => hasG level (l.take i) g ∨ ∃ x ∈ t.spans.take n, grp level x = g) v.1) ⟨rfl, ⟨hr.sorted, hr.tot, fun g => by rw [hr.mem]; simp⟩⟩ ?_
    rintro n ⟨out, v⟩ N' hn ⟨rfl, ho⟩ hN'
    dsimp only at ho ⊢
    have e1 : w64 ((n : Int) + 1) = (n : Int) + 1 := w64_in (by omega) (by omega)
    have hol : out.length ≤ 12 := isby_len ho fun g hg => by
      rcases hg with hg | ⟨x, hx, e⟩
      · obtain ⟨t, ht, x, hx, e⟩ := hg
        exact ⟨x, (hl.all t (List.mem_of_mem_take ht)).spans x hx, e.symm⟩
      · exact ⟨x, hgt.spans x (List.mem_of_mem_take hx), e.symm⟩
    unfold L23_2
    refine idx_nat hil fun t' ht' => ?_
    rw [hti] at ht'; cases ht'
    refine cond_dec (fun hlt2 => ?_) fun hge2 => ?_
    · refine idx_nat (by omega) fun x hx => W21_of h1 h3 ?_
      have more : ∀ g, ((hasG level (l.take i) g ∨ ∃ x ∈ t.spans.take n, grp level x = g) ∨ g = grp level x) ↔ (hasG level (l.take i) g ∨ ∃ x ∈ t.spans.take (n + 1), grp level x = g) := fun g => by
        rw [take_snoc hx]
        constructor
        · rintro ((h | ⟨y, hy, h⟩) | h)
          · exact .inl h
          · exact .inr ⟨y, by simp [hy], h⟩
          · exact .inr ⟨x, by simp, h.symm⟩
        · rintro (h | ⟨y, hy, h⟩)
          · exact .inl (.inl h)
          · rcases List.mem_append.1 hy with hy | hy
            · exact .inl (.inr ⟨y, hy, h⟩)
            · simp only [List.mem_cons, List.not_mem_nil, or_false] at hy
              subst hy; exact .inr h.symm
      generalize hgx : grp level x = gx at *
      refine loop_of (fun (q : Int) => 0 ≤ q ∧ q ≤ out.length ∧ ∀ y ∈ out.drop q.toNat, gl gx y.group) (fun q => q.toNat) ⟨by omega, by omega, by simp⟩ ?_
      rintro q N2 ⟨q0, q1, q2⟩ hN2
      have e2 : 0 < q → w64 (q - 1) = q - 1 := fun _ => w64_in (by omega) (by omega)
      have skip : gx ∈ out.map (·.group) → J23_3 N' (n : Int) out := by
        intro hin
        unfold J23_3
        rw [e1]
        refine hN' _ (by omega) ⟨by simp, ⟨ho.sorted, ho.tot, fun g => ?_⟩⟩
        dsimp only
        rw [ho.mem, ← more]
        constructor
        · exact .inl
        · rintro (h | rfl)
          · exact h
          · obtain ⟨y, hy, e⟩ := List.mem_map.1 hin
            exact (ho.mem _).1 ⟨y, hy, e⟩
      have ins : (∀ y ∈ out.take q.toNat, gl y.group gx) → J23_6 N' (n : Int) out q l gx level false := by
        intro hlo
        unfold J23_6
        refine ⟨fun h => (by cases h), fun _ => ⟨q0, q1, q0, q1, ?_⟩⟩
        have e3 : ([] ++ List.take (q.toNat - 0) (List.drop 0 out) ++ [TLine.mk gx (totP level l gx)] ++ List.take (out.length - q.toNat) (List.drop q.toNat out)) = out.take q.toNat ++ TLine.mk gx (totP level l gx) :: out.drop q.toNat := by
          have : List.take (out.length - q.toNat) (List.drop q.toNat out) = out.drop q.toNat := List.take_of_length_le (by simp)
          rw [this]; simp
        have e4 : (out.take q.toNat ++ TLine.mk gx (totP level l gx) :: out.drop q.toNat).length = out.length + 1 := by simp; omega
        refine fits_of (by simp; omega) (W45_of hl h1 h3 (fits_of (by simp; omega) ?_))
        rw [e3]
        refine fits_of (by rw [e4]; omega) ?_
        unfold J23_3
        rw [e1]
        have split : ∀ y, y ∈ out.take q.toNat ++ TLine.mk gx (totP level l gx) :: out.drop q.toNat ↔ y ∈ out ∨ y = TLine.mk gx (totP level l gx) := fun y => by
          rw [List.mem_append, List.mem_cons]
          conv => rhs; rw [← List.take_append_drop q.toNat out, List.mem_append]
          constructor
          · rintro (h | h | h)
            · exact .inl (.inl h)
            · exact .inr h
            · exact .inl (.inr h)
          · rintro ((h | h) | h)
            · exact .inl h
            · exact .inr (.inr h)
            · exact .inr (.inl h)
        refine hN' _ (by omega) ⟨by simp, ⟨?_, fun y hy => ?_, fun g => ?_⟩⟩
        · dsimp only
          have hs := ho.sorted
          unfold SSorted at hs ⊢
          refine List.pairwise_append.2 ⟨hs.sublist (List.take_sublist _ _), List.pairwise_cons.2 ⟨fun y hy => q2 y hy, hs.sublist (List.drop_sublist _ _)⟩, fun a ha b hb => ?_⟩
          rcases List.mem_cons.1 hb with rfl | hb
          · exact hlo a ha
          · exact gl_trans (hlo a ha) (q2 b hb)
        · dsimp only at hy
          rcases (split y).1 hy with hy | rfl
          · exact ho.tot y hy
          · rfl
        · dsimp only
          rw [← more, ← ho.mem]
          constructor
          · rintro ⟨y, hy, e⟩
            rcases (split y).1 hy with hy | rfl
            · exact .inl ⟨y, hy, e⟩
            · exact .inr e.symm
          · rintro (⟨y, hy, e⟩ | e)
            · exact ⟨y, (split y).2 (.inl hy), e⟩
            · exact ⟨_, (split _).2 (.inr rfl), e.symm⟩
      have stop : (∀ y ∈ out.take q.toNat, ¬ gl gx y.group) → J23_5 N2 q out N' (n : Int) l gx level false := by
        intro hlo
        unfold J23_5
        refine ⟨fun h => (by cases h), fun _ => cond_dec (fun hq => ?_) fun hq => ins fun y hy => by have : q.toNat = 0 := by omega
                                                                                                     rw [this] at hy; simp at hy⟩
        rw [e2 hq]
        refine idx_of (by omega) (by omega) fun y hy => ?_
        rw [eqG]
        have hyl := (List.getElem?_eq_some_iff.1 hy).1
        by_cases he : y.group = gx
        · rw [decide_eq_true he]
          unfold J23_6
          exact ⟨fun _ => skip (by rw [← he]; exact List.mem_map_of_mem (f := (·.group)) (mem_of_get hy)), fun h => (by cases h)⟩
        · rw [decide_eq_false he]
          refine ins fun z hz => ?_
          -- all before y are smaller
          have hyt : y ∈ out.take q.toNat := List.mem_of_getElem? (i := (q - 1).toNat) (by rw [List.getElem?_take, if_pos (by omega)]; exact hy)
          have hyx : gl y.group gx := by
            by_cases h : gl y.group gx
            · exact h
            · exact absurd (gl_tri h (hlo y hyt)) he
          obtain ⟨j, hj⟩ := List.getElem?_of_mem hz
          rw [List.getElem?_take] at hj
          split at hj
          · rename_i hjl
            have hjlen := (List.getElem?_eq_some_iff.1 hj).1
            rcases Nat.lt_or_ge j (q - 1).toNat with hlt' | hge'
            · have := List.pairwise_iff_getElem.1 ho.sorted j (q - 1).toNat hjlen hyl hlt'
              rw [(List.getElem?_eq_some_iff.1 hj).2, (List.getElem?_eq_some_iff.1 hy).2] at this
              exact gl_trans this hyx
            · have : j = (q - 1).toNat := by omega
              subst this
              rw [hy] at hj; cases hj; exact hyx
          · cases hj
      unfold L23_4
      refine cond_dec (fun hq => ?_) fun hq => stop fun y hy => by have : q.toNat = 0 := by omega
                                                                   rw [this] at hy; simp at hy
      rw [e2 hq]
      refine idx_of (by omega) (by omega) fun y hy => W44_of fun b hb => ?_
      have hyl := (List.getElem?_eq_some_iff.1 hy).1
      cases b with
      | true =>
        have hlt3 := hb.1 rfl
        unfold J23_5
        refine ⟨fun _ => ?_, fun h => (by cases h)⟩
        rw [e2 hq]
        refine hN2 _ ⟨by omega, by omega, fun z hz => ?_⟩ (by omega)
        have hd : out.drop (q - 1).toNat = y :: out.drop q.toNat := by
          rw [List.drop_eq_getElem_cons hyl]
          have e6 : (q - 1).toNat + 1 = q.toNat := by omega
          rw [e6, (List.getElem?_eq_some_iff.1 hy).2]
        rw [hd] at hz
        rcases List.mem_cons.1 hz with rfl | hz
        · exact hlt3
        · exact q2 z hz
      | false =>
        have hnl : ¬ gl gx y.group := fun h => by have := hb.2 h; cases this
        refine stop fun z hz => ?_
        obtain ⟨j, hj⟩ := List.getElem?_of_mem hz
        rw [List.getElem?_take] at hj
        split at hj
        · rename_i hjl
          have hjlen := (List.getElem?_eq_some_iff.1 hj).1
          rcases Nat.lt_or_ge j (q - 1).toNat with hlt' | hge'
          · have := List.pairwise_iff_getElem.1 ho.sorted j (q - 1).toNat hjlen hyl hlt'
            rw [(List.getElem?_eq_some_iff.1 hj).2, (List.getElem?_eq_some_iff.1 hy).2] at this
            exact fun h => hnl (gl_trans h this)
          · have : j = (q - 1).toNat := by omega
            subst this
            rw [hy] at hj; cases hj; exact hnl
        · cases hj
    · have : n = t.spans.length := by omega
      subst this
      rw [e0]
      refine hN _ (by omega) ⟨by simp, ⟨ho.sorted, ho.tot, fun g => ?_⟩⟩
      dsimp only
      rw [ho.mem, take_snoc hti, List.take_length]
      unfold hasG
      constructor
      · rintro (⟨t', ht', h⟩ | h)
        · exact ⟨t', by simp [ht'], h⟩
        · exact ⟨t, by simp, h⟩
      · rintro ⟨t', ht', h⟩
        rcases List.mem_append.1 ht' with ht' | ht'
        · exact .inl ⟨t', ht', h⟩
        · simp only [List.mem_cons, List.not_mem_nil, or_false] at ht'
          subst ht'; exact .inr h
  · have : i = l.length := by omega
    subst this
    rw [List.take_length] at hr
    exact h r hr

end Go.Proofs.Ytnpdeecoejabgaa
