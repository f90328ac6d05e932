/- PLAIN LAWS, 10: span.Check has one result; estimate.Check. -/
import Derived.Test.YtnpdeecoejabgaaPE
set_option maxRecDepth 100000
set_option linter.unusedSimpArgs false
set_option linter.unusedVariables false
namespace Go.Proofs.Ytnpdeecoejabgaa
open Go Go.RowKit

/-- A shallow form that has one result. -/
def Det {R : Type} (W : (R → Prop) → Prop) : Prop := ∃ r, ∀ K, K r → W K
theorem Det.ret {R : Type} (r : R) : Det (fun K : R → Prop => K r) := ⟨r, fun _ h => h⟩
theorem Det.cond {R : Type} {t : Bool} {A B : (R → Prop) → Prop} (ha : Det A) (hb : Det B) : Det fun K => Cond t (A K) (B K) := by
  obtain ⟨a, ha⟩ := ha
  obtain ⟨b, hb⟩ := hb
  cases t with
  | true => exact ⟨a, fun K h => ⟨fun _ => ha K h, fun h => by cases h⟩⟩
  | false => exact ⟨b, fun K h => ⟨fun h => (by cases h), fun _ => hb K h⟩⟩
theorem Det.bind {R T : Type} {W : (T → Prop) → Prop} {B : T → (R → Prop) → Prop} (hw : Det W) (hb : ∀ t, Det (B t)) : Det fun K => W fun t => B t K := by
  obtain ⟨t, hw⟩ := hw
  obtain ⟨r, hb⟩ := hb t
  exact ⟨r, fun K h => hw _ (hb K h)⟩

/-- A loop with a counter, whose rounds return, or go on. -/
theorem Det.loop {R : Type} {L : (R → Prop) → Int → (Int → Prop) → Prop} (n : Nat) (h : ∀ i : Nat, i ≤ n → (∃ r, ∀ K N, K r → L K i N) ∨ (i < n ∧ ∀ K N, N (((i + 1 : Nat) : Int)) → L K i N)) : Det fun K => LoopW (fun s N => L K s N) 0 := by
  -- the first round that returns
  have key : ∀ k i : Nat, i + k = n → ∃ j r, i ≤ j ∧ j ≤ n ∧ (∀ K N, K r → L K j N) ∧ ∀ m : Nat, i ≤ m → m < j → ∀ K N, N (((m + 1 : Nat) : Int)) → L K m N := by
    intro k
    induction k with
    | zero =>
      intro i hi
      rcases h i (by omega) with ⟨r, hr⟩ | ⟨hlt, _⟩
      · exact ⟨i, r, Nat.le_refl _, by omega, hr, fun m h1 h2 => by omega⟩
      · omega
    | succ k ih =>
      intro i hi
      rcases h i (by omega) with ⟨r, hr⟩ | ⟨hlt, hgo⟩
      · exact ⟨i, r, Nat.le_refl _, by omega, hr, fun m h1 h2 => by omega⟩
      · obtain ⟨j, r, h1, h2, h3, h4⟩ := ih (i + 1) (by omega)
        refine ⟨j, r, by omega, h2, h3, fun m hm1 hm2 => ?_⟩
        by_cases e : m = i
        · subst e; exact hgo
        · exact h4 m (by omega) hm2
  obtain ⟨j, r, _, _, hr, hgo⟩ := key n 0 (by omega)
  refine ⟨r, fun K hK => loop_idx j (fun i v => v = (i : Int)) rfl ?_⟩
  rintro i v N hi rfl hN
  by_cases e : i = j
  · subst e; exact hr K N hK
  · exact hgo i (by omega) (by omega) K N (hN _ (by omega) rfl)

theorem W53_of {n : Int} {K : Bool → Prop} (h : ∀ r, (r = false ↔ 1 ≤ n ∧ n ≤ 1099511627776) → K r) : W53 n K := by
  unfold W53 J53_1
  refine cond_dec (fun h1 => h _ ?_) fun h1 => h _ ?_
  · constructor
    · intro h; cases h
    · intro h; omega
  · rw [decide_eq_false_iff_not]; omega
theorem W53_det (n : Int) : Det (W53 n) := by
  by_cases hn : 1 ≤ n ∧ n ≤ 1099511627776
  · exact ⟨false, fun K h => W53_of fun r hr => by rw [hr.2 hn]; exact h⟩
  · refine ⟨true, fun K h => W53_of fun r hr => ?_⟩
    cases r with
    | true => exact h
    | false => exact absurd (hr.1 rfl) hn

theorem chr_at (s : ByteArray) (i : Nat) (hi : i < s.size) : ∃ b : UInt8, s[i]? = some b := ⟨s[i], getElem?_pos s i hi⟩

/-- Strings that fit into memory. -/
def lenOk (s : ByteArray) : Prop := s.size ≤ 9223372036854775806

theorem W75_det (s : ByteArray) (hs : lenOk s) (lo hi : Int) : Det (W75 s lo hi) := by
  unfold lenOk at hs
  unfold W75
  refine Det.loop s.size fun i hi' => ?_
  by_cases hlt : i < s.size
  · obtain ⟨b, hb⟩ := chr_at s i hlt
    have e1 : w64 ((i : Int) + 1) = ((i + 1 : Nat) : Int) := by rw [w64_in (by omega) (by omega)]; omega
    have chr : ∀ {P : UInt8 → Prop}, P b → Chr s (i : Int) P := fun hp => ⟨by omega, b, by simpa using hb, hp⟩
    by_cases h1 : (b.toNat : Int) < lo ∨ (b.toNat : Int) > hi
    · refine .inl ⟨false, fun K N hK => ?_⟩
      unfold L75_1 J75_2
      refine cond_dec (fun _ => chr ?_) fun h => absurd (by omega) h
      refine cond_dec (fun _ => ⟨fun _ => hK, fun h => by cases h⟩) fun h2 => chr ?_
      have : decide ((b.toNat : Int) > hi) = true := decide_eq_true (by omega)
      rw [this]
      exact ⟨fun _ => hK, fun h => by cases h⟩
    · refine .inr ⟨hlt, fun K N hN => ?_⟩
      unfold L75_1 J75_2
      refine cond_dec (fun _ => chr ?_) fun h => absurd (by omega) h
      refine cond_dec (fun h => absurd (.inl h) h1) fun h2 => chr ?_
      have : decide ((b.toNat : Int) > hi) = false := decide_eq_false (by omega)
      rw [this]
      exact ⟨fun h => (by cases h), fun _ => by rw [e1]; exact hN⟩
  · refine .inl ⟨true, fun K N hK => ?_⟩
    unfold L75_1
    exact cond_dec (fun h => absurd h (by omega)) fun _ => hK

theorem W54_det (s : ByteArray) (hs : lenOk s) : Det (W54 s) := by
  unfold W54 J54_1
  exact Det.cond (Det.cond (Det.bind (W75_det s hs _ _) fun r => Det.ret r) (Det.ret _)) (Det.ret _)

theorem W76_det (v : TValue) (hs : lenOk v.text) : Det (W76 v) := by
  have j : ∀ b, Det fun K => J76_1 v K b := fun b => by
    unfold J76_1
    exact Det.cond (Det.ret _) (Det.cond (Det.ret _) (Det.ret _))
  unfold W76
  exact Det.cond (Det.bind (W75_det _ hs _ _) fun r => Det.cond (j _) (j _)) (Det.cond (Det.cond (Det.cond (j _) (j _)) (j _)) (Det.cond (Det.cond (Det.cond (j _) (j _)) (j _)) (Det.ret _)))

theorem idx_det {α R : Type} {xs : List α} {i : Nat} (hi : i < xs.length) {B : α → (R → Prop) → Prop} (h : Det (B xs[i])) : Det fun K => Idx xs (i : Int) fun x => B x K := by
  obtain ⟨r, hr⟩ := h
  exact ⟨r, fun K hK => ⟨by omega, xs[i], by simp [hi], hr K hK⟩⟩

/-- One round of a loop: it returns, or goes on. -/
def Rnd {R T : Type} (g : T) (W : (R → Prop) → (T → Prop) → Prop) : Prop := (∃ r, ∀ K N, K r → W K N) ∨ ∀ K N, N g → W K N
theorem Rnd.ret {R T : Type} {g : T} (r : R) : Rnd g fun (K : R → Prop) N => K r := .inl ⟨r, fun _ _ h => h⟩
theorem Rnd.go {R T : Type} {g g' : T} (e : g' = g) : Rnd g fun (K : R → Prop) N => N g' := .inr fun _ N h => by rw [e]; exact h
theorem Rnd.cond {R T : Type} {g : T} {t : Bool} {A B : (R → Prop) → (T → Prop) → Prop} (ha : Rnd g A) (hb : Rnd g B) : Rnd g fun K N => Cond t (A K N) (B K N) := by
  cases t with
  | true =>
    rcases ha with ⟨r, h⟩ | h
    · exact .inl ⟨r, fun K N hK => ⟨fun _ => h K N hK, fun h => by cases h⟩⟩
    · exact .inr fun K N hN => ⟨fun _ => h K N hN, fun h => by cases h⟩
  | false =>
    rcases hb with ⟨r, h⟩ | h
    · exact .inl ⟨r, fun K N hK => ⟨fun h => (by cases h), fun _ => h K N hK⟩⟩
    · exact .inr fun K N hN => ⟨fun h => (by cases h), fun _ => h K N hN⟩
theorem Rnd.condD {R T : Type} {g : T} {p : Prop} [Decidable p] {A B : (R → Prop) → (T → Prop) → Prop} (ha : p → Rnd g A) (hb : ¬ p → Rnd g B) : Rnd g fun K N => Cond (decide p) (A K N) (B K N) := by
  by_cases hp : p
  · rcases ha hp with ⟨r, h⟩ | h
    · exact .inl ⟨r, fun K N hK => cond_dec (fun _ => h K N hK) fun h => absurd hp h⟩
    · exact .inr fun K N hN => cond_dec (fun _ => h K N hN) fun h => absurd hp h
  · rcases hb hp with ⟨r, h⟩ | h
    · exact .inl ⟨r, fun K N hK => cond_dec (fun h => absurd h hp) fun _ => h K N hK⟩
    · exact .inr fun K N hN => cond_dec (fun h => absurd h hp) fun _ => h K N hN
theorem Rnd.bind {R T U : Type} {g : U} {W : (T → Prop) → Prop} {B : T → (R → Prop) → (U → Prop) → Prop} (hw : Det W) (hb : ∀ t, Rnd g (B t)) : Rnd g fun K N => W fun t => B t K N := by
  obtain ⟨t, hw⟩ := hw
  rcases hb t with ⟨r, h⟩ | h
  · exact .inl ⟨r, fun K N hK => hw _ (h K N hK)⟩
  · exact .inr fun K N hN => hw _ (h K N hN)
theorem Rnd.idx {α R T : Type} {g : T} {xs : List α} {j : Int} (h0 : 0 ≤ j) (hj : j < (xs.length : Int)) {B : α → (R → Prop) → (T → Prop) → Prop} (h : ∀ x ∈ xs, Rnd g (B x)) : Rnd g fun K N => Idx xs j fun x => B x K N := by
  have hl : j.toNat < xs.length := by omega
  rcases h xs[j.toNat] (List.getElem_mem hl) with ⟨r, hr⟩ | hr
  · exact .inl ⟨r, fun K N hK => ⟨h0, xs[j.toNat], by simp [hl], hr K N hK⟩⟩
  · exact .inr fun K N hN => ⟨h0, xs[j.toNat], by simp [hl], hr K N hN⟩
/-- A loop over a list. -/
theorem Det.loopR {R : Type} {L : (R → Prop) → Int → (Int → Prop) → Prop} (n : Nat) (hgo : ∀ i : Nat, i < n → Rnd (((i + 1 : Nat) : Int)) fun K N => L K i N) (hend : ∃ r, ∀ K N, K r → L K n N) : Det fun K => LoopW (fun s N => L K s N) 0 :=
  Det.loop n fun i hi => by
    by_cases h : i < n
    · rcases hgo i h with h1 | h1
      · exact .inl h1
      · exact .inr ⟨h, h1⟩
    · have : i = n := by omega
      subst this; exact .inl hend
/-- Rounds of a loop: the first that returns, or none. -/
theorem rounds {R S : Type} {L : (R → Prop) → S → (S → Prop) → Prop} (st : Nat → S) (n : Nat) (hgo : ∀ i : Nat, i < n → Rnd (st (i + 1)) fun K N => L K (st i) N) :
    (∃ j r, j < n ∧ (∀ K N, K r → L K (st j) N) ∧ ∀ i, i < j → ∀ K N, N (st (i + 1)) → L K (st i) N) ∨ ∀ i, i < n → ∀ K N, N (st (i + 1)) → L K (st i) N := by
  induction n with
  | zero => exact .inr fun i h => by omega
  | succ n ih =>
    rcases ih fun i hi => hgo i (by omega) with ⟨j, r, h1, h2, h3⟩ | h
    · exact .inl ⟨j, r, by omega, h2, h3⟩
    · rcases hgo n (by omega) with ⟨r, hr⟩ | hr
      · exact .inl ⟨n, r, by omega, hr, h⟩
      · refine .inr fun i hi => ?_
        by_cases e : i = n
        · subst e; exact hr
        · exact h i (by omega)
theorem Det.loopS {R S : Type} {L : (R → Prop) → S → (S → Prop) → Prop} (st : Nat → S) (n : Nat) (hgo : ∀ i : Nat, i < n → Rnd (st (i + 1)) fun K N => L K (st i) N) (hend : ∃ r, ∀ K N, K r → L K (st n) N) : Det fun K => LoopW (fun s N => L K s N) (st 0) := by
  rcases rounds st n hgo with ⟨j, r, h1, h2, h3⟩ | h
  · refine ⟨r, fun K hK => loop_idx j (fun i v => v = st i) rfl ?_⟩
    rintro i v N hi rfl hN
    by_cases e : i = j
    · subst e; exact h2 K N hK
    · exact h3 i (by omega) K N (hN _ (by omega) rfl)
  · obtain ⟨r, hr⟩ := hend
    refine ⟨r, fun K hK => loop_idx n (fun i v => v = st i) rfl ?_⟩
    rintro i v N hi rfl hN
    by_cases e : i = n
    · subst e; exact hr K N hK
    · exact h i (by omega) K N (hN _ (by omega) rfl)
/-- A loop in a loop. -/
theorem Rnd.loop {R T : Type} {g : T} {L : (R → Prop) → (T → Prop) → Int → (Int → Prop) → Prop} (n : Nat) (hgo : ∀ i : Nat, i < n → Rnd (Sum.inl (((i + 1 : Nat) : Int)) : Int ⊕ T) fun K N => L K (fun t => N (.inr t)) i (fun t => N (.inl t))) (hend : ∀ K N M, N g → L K N n M) : Rnd g fun K N => LoopW (fun s M => L K N s M) 0 := by
  have key : (∃ j r, j < n ∧ (∀ K N M, K r → L K N ((j : Nat) : Int) M) ∧ ∀ i : Nat, i < j → ∀ K N M, M (((i + 1 : Nat) : Int)) → L K N i M) ∨ ∀ i : Nat, i < n → ∀ K N M, M (((i + 1 : Nat) : Int)) → L K N i M := by
    clear hend
    induction n with
    | zero => exact .inr fun i h => by omega
    | succ n ih =>
      rcases ih fun i hi => hgo i (by omega) with ⟨j, r, h1, h2, h3⟩ | h
      · exact .inl ⟨j, r, by omega, h2, h3⟩
      · rcases hgo n (by omega) with ⟨r, hr⟩ | hr
        · exact .inl ⟨n, r, by omega, fun K N M hK => hr K (fun t => Sum.elim M N t) hK, h⟩
        · refine .inr fun i hi => ?_
          by_cases e : i = n
          · subst e; exact fun K N M hM => hr K (fun t => Sum.elim M N t) hM
          · exact h i (by omega)
  rcases key with ⟨j, r, h1, h2, h3⟩ | h
  · refine .inl ⟨r, fun K N hK => loop_idx j (fun i v => v = (i : Int)) rfl ?_⟩
    rintro i v M hi rfl hM
    by_cases e : i = j
    · subst e; exact h2 K N M hK
    · exact h3 i (by omega) K N M (hM _ (by omega) rfl)
  · refine .inr fun K N hN => loop_idx n (fun i v => v = (i : Int)) rfl ?_
    rintro i v M hi rfl hM
    by_cases e : i = n
    · subst e; exact hend K N M hN
    · exact h i (by omega) K N M (hM _ (by omega) rfl)

theorem W56_det (l : List TAttr) (hl : l.length ≤ 9223372036854775806) (ha : ∀ a ∈ l, lenOk a.key ∧ lenOk a.value.text) : Det (W56 l) := by
  unfold W56
  refine Det.cond (Det.ret _) (Det.loopR l.length (fun i hi => ?_) ⟨0, fun K N hK => ?_⟩)
  · have e1 : w64 ((i : Int) + 1) = ((i + 1 : Nat) : Int) := by rw [w64_in (by omega) (by omega)]; omega
    unfold L56_1
    have j : ∀ x ∈ l, ∀ b, Rnd (((i + 1 : Nat) : Int)) fun K N => J56_2 K x N (i : Int) b := fun x hx b => by
      unfold J56_2
      exact Rnd.cond (Rnd.ret _) (Rnd.bind (W76_det _ (ha x hx).2) fun r => Rnd.cond (Rnd.ret _) (Rnd.go e1))
    refine Rnd.condD (fun _ => Rnd.idx (by omega) (by omega) fun x hx => Rnd.bind (W54_det _ (ha x hx).1) fun r => Rnd.cond (Rnd.ret _) (Rnd.condD (fun hp => ?_) fun _ => j x hx _)) fun h => absurd (by omega) h
    rw [w64_in (by omega) (by omega)]
    exact Rnd.idx (by omega) (by omega) fun y hy => j x hx _
  · unfold L56_1
    exact cond_dec (fun h => absurd h (by omega)) fun _ => hK

theorem W61_det (x y : Int) : Det (W61 x y) := by
  unfold W61 W79
  exact Det.cond (Det.cond (Det.ret _) (Det.ret _)) (Det.cond (Det.ret _) (Det.cond (Det.ret _) (Det.cond (Det.ret _) (Det.ret _))))
theorem W81_det (l : List Int) (hl : l.length ≤ 9223372036854775806) : Det (W81 l) := by
  unfold W81
  refine Det.loopR l.length (fun i hi => ?_) ⟨0, fun K N hK => ?_⟩
  · have e1 : w64 ((i : Int) + 1) = ((i + 1 : Nat) : Int) := by rw [w64_in (by omega) (by omega)]; omega
    unfold L81_1
    exact Rnd.condD (fun _ => Rnd.idx (by omega) (by omega) fun x hx => Rnd.cond (Rnd.ret _) (Rnd.go e1)) fun h => absurd (by omega) h
  · unfold L81_1
    exact cond_dec (fun h => absurd h (by omega)) fun _ => hK
theorem W55_det (l : List Int) (hl : l.length ≤ 9223372036854775806) : Det (W55 l) := by
  unfold W55
  refine Det.loopR l.length (fun i hi => ?_) ⟨0, fun K N hK => ?_⟩
  · have e1 : w64 ((i : Int) + 1) = ((i + 1 : Nat) : Int) := by rw [w64_in (by omega) (by omega)]; omega
    unfold L55_1
    exact Rnd.condD (fun _ => Rnd.idx (by omega) (by omega) fun x hx => Rnd.cond (Rnd.ret _) (Rnd.go e1)) fun h => absurd (by omega) h
  · unfold L55_1
    exact cond_dec (fun h => absurd h (by omega)) fun _ => hK
theorem W77_det (a b : TRef) : Det (W77 a b) := by
  unfold W77
  exact Det.bind (W61_det _ _) fun r => Det.bind (W61_det _ _) fun q => Det.bind (W81_det _ (by simp)) fun z => Det.ret z

theorem W57_det (l : List TRef) (hl : l.length ≤ 9223372036854775806) : Det (W57 l) := by
  unfold W57
  refine Det.cond (Det.ret _) (Det.loopR l.length (fun i hi => ?_) ⟨0, fun K N hK => ?_⟩)
  · have e1 : w64 ((i : Int) + 1) = ((i + 1 : Nat) : Int) := by rw [w64_in (by omega) (by omega)]; omega
    unfold L57_1
    have j3 : ∀ b, Rnd (((i + 1 : Nat) : Int)) fun K N => J57_3 K N (i : Int) b := fun b => by
      unfold J57_3
      exact Rnd.cond (Rnd.ret _) (Rnd.go e1)
    have j2 : ∀ x b, Rnd (((i + 1 : Nat) : Int)) fun K N => J57_2 K (i : Int) l x N b := fun x b => by
      unfold J57_2
      refine Rnd.cond (Rnd.ret _) (Rnd.condD (fun hp => ?_) fun _ => j3 _)
      rw [w64_in (by omega) (by omega)]
      exact Rnd.idx (by omega) (by omega) fun y hy => Rnd.bind (W77_det _ _) fun r => j3 _
    exact Rnd.condD (fun _ => Rnd.idx (by omega) (by omega) fun x hx => Rnd.bind (W53_det _) fun r => Rnd.cond (j2 _ _) (Rnd.bind (W53_det _) fun q => j2 _ _)) fun h => absurd (by omega) h
  · unfold L57_1
    exact cond_dec (fun h => absurd h (by omega)) fun _ => hK

/-- A span whose lists and strings fit into memory. -/
structure SpanFits (x : TSpan) : Prop where
  service : lenOk x.service
  version : lenOk x.version
  operation : lenOk x.operation
  attrs : x.attrs.length ≤ 9223372036854775806
  links : x.links.length ≤ 9223372036854775806
  each : ∀ a ∈ x.attrs, lenOk a.key ∧ lenOk a.value.text

theorem J32_2_det (x : TSpan) (h : SpanFits x) (b : Bool) : Det fun K => J32_2 K x b := by
  have j4 : ∀ b, Det fun K => J32_4 K x b := fun b => by
    unfold J32_4
    exact Det.cond (Det.ret _) (Det.cond (Det.ret _) (Det.cond (Det.ret _) (Det.bind (W56_det _ h.attrs h.each) fun r => Det.bind (W57_det _ h.links) fun q => Det.bind (W55_det _ (by simp)) fun z => Det.ret z)))
  have j3 : ∀ b, Det fun K => J32_3 K x b := fun b => by
    unfold J32_3
    exact Det.cond (Det.ret _) (Det.cond (j4 _) (j4 _))
  unfold J32_2
  exact Det.cond (Det.ret _) (Det.bind (W54_det _ h.service) fun r => Det.cond (j3 _) (Det.bind (W54_det _ h.operation) fun q => Det.cond (j3 _) (Det.cond (Det.bind (W54_det _ h.version) fun z => j3 _) (j3 _))))
theorem W32_det (x : TSpan) (h : SpanFits x) : Det (W32 x) := by
  have j1 : ∀ b, Det fun K => J32_1 K x b := fun b => by
    unfold J32_1
    exact Det.cond (Det.ret _) (Det.cond (J32_2_det x h _) (J32_2_det x h _))
  unfold W32
  exact Det.bind (W53_det _) fun r => Det.cond (j1 _) (Det.bind (W53_det _) fun q => Det.cond (j1 _) (Det.cond (j1 _) (Det.cond (j1 _) (Det.cond (j1 _) (Det.cond (j1 _) (Det.cond (j1 _) (j1 _)))))))

theorem W30_det (l : List TTrace) (hl : l.length ≤ 1000000) (hs : ∀ t ∈ l, t.spans.length ≤ 1000000) (hf : ∀ t ∈ l, ∀ x ∈ t.spans, SpanFits x) : Det (W30 l) := by
  unfold W30
  -- how many spans there are so far
  let c : Nat → Nat := fun i => ((l.take i).map fun t => t.spans.length).sum
  have hc : ∀ i, c i ≤ 1000000 * i := fun i => by
    show ((l.take i).map fun t => t.spans.length).sum ≤ 1000000 * i
    induction i with
    | zero => simp
    | succ i ih =>
      by_cases hi : i < l.length
      · rw [List.take_add_one, List.getElem?_eq_getElem hi, List.map_append, List.sum_append]
        have := hs l[i] (List.getElem_mem hi)
        simp only [Option.toList_some, List.map_cons, List.map_nil, List.sum_cons, List.sum_nil]
        omega
      · have e1 : l.take (i + 1) = l := List.take_of_length_le (by omega)
        have e2 : l.take i = l := List.take_of_length_le (by omega)
        rw [e1]; rw [e2] at ih; omega
  have hcs : ∀ i (hi : i < l.length), c (i + 1) = c i + (l[i]).spans.length := fun i hi => by
    show ((l.take (i + 1)).map fun t => t.spans.length).sum = _
    rw [List.take_add_one, List.getElem?_eq_getElem hi, List.map_append, List.sum_append]
    simp only [Option.toList_some, List.map_cons, List.map_nil, List.sum_cons, List.sum_nil]
    rfl
  have h0 : ((0, 0) : Int × Int) = (fun i : Nat => (((c i : Nat) : Int), (i : Int))) 0 := rfl
  rw [h0]
  refine Det.loopS (fun i : Nat => (((c i : Nat) : Int), (i : Int))) l.length (fun i hi => ?_) ?_
  · dsimp only
    have e1 : w64 ((i : Int) + 1) = ((i + 1 : Nat) : Int) := by rw [w64_in (by omega) (by omega)]; omega
    have hti := List.getElem?_eq_getElem hi
    have hmem := List.getElem_mem hi
    have hcl := hcs i hi
    have hcb := hc i
    unfold L30_1
    refine Rnd.condD (fun _ => ?_) fun h => absurd (by omega) h
    -- the trace
    have one : ∀ {B : TTrace → (Int → Prop) → (Int × Int → Prop) → Prop} {g : Int × Int}, Rnd g (B l[i]) → Rnd g fun K N => Idx l (i : Int) fun x => B x K N := fun {B g} h => by
      rcases h with ⟨r, hr⟩ | hr
      · exact .inl ⟨r, fun K N hK => ⟨by omega, l[i], by simp [hi], hr K N hK⟩⟩
      · exact .inr fun K N hN => ⟨by omega, l[i], by simp [hi], hr K N hN⟩
    refine one ?_
    generalize l[i] = t at hti hmem hcl
    have hln := hs t hmem
    have j3 : ∀ b, Rnd (((c (i + 1) : Nat) : Int), ((i + 1 : Nat) : Int)) fun K N => J30_3 K t N ((c i : Nat) : Int) (i : Int) b := fun b => by
      unfold J30_3
      refine Rnd.cond (Rnd.ret _) (Rnd.loop t.spans.length (fun k hk => ?_) fun K N M hN => ?_)
      · have e2 : w64 ((k : Int) + 1) = ((k + 1 : Nat) : Int) := by rw [w64_in (by omega) (by omega)]; omega
        unfold L30_4
        have j5 : ∀ b, Rnd (Sum.inl (((k + 1 : Nat) : Int)) : Int ⊕ (Int × Int)) fun (K : Int → Prop) N => J30_5 K (fun t => N (.inl t)) (k : Int) b := fun b => by
          unfold J30_5
          refine Rnd.cond (Rnd.ret _) ?_
          rw [e2]
          exact Rnd.go rfl
        refine Rnd.condD (fun _ => Rnd.idx (by omega) (by omega) fun x hx => Rnd.bind (W32_det x (hf t hmem x hx)) fun r => Rnd.cond (Rnd.ret _) (Rnd.cond (Rnd.ret _) (Rnd.condD (fun hp => ?_) fun _ => j5 _))) fun h => absurd (by omega) h
        rw [w64_in (n := (k : Int) - 1) (by omega) (by omega)]
        exact Rnd.idx (by omega) (by omega) fun y hy => j5 _
      · unfold L30_4
        refine cond_dec (fun h => absurd h (by omega)) fun _ => ?_
        rw [e1, w64_in (by omega) (by omega)]
        have : ((c i : Nat) : Int) + (t.spans.length : Int) = ((c (i + 1) : Nat) : Int) := by omega
        rw [this]; exact hN
    have j2 : ∀ b, Rnd (((c (i + 1) : Nat) : Int), ((i + 1 : Nat) : Int)) fun K N => J30_2 K (i : Int) l t N ((c i : Nat) : Int) b := fun b => by
      unfold J30_2
      refine Rnd.cond (Rnd.ret _) (Rnd.condD (fun hp => ?_) fun _ => j3 _)
      rw [w64_in (n := (i : Int) - 1) (by omega) (by omega)]
      exact Rnd.idx (by omega) (by omega) fun y hy => j3 _
    exact Rnd.cond (j2 _) (Rnd.cond (j2 _) (Rnd.cond (j2 _) (j2 _)))
  · by_cases hb : ((c l.length : Nat) : Int) > 4096
    · refine ⟨6, fun K N hK => ?_⟩
      unfold L30_1
      exact cond_dec (fun h => absurd h (by dsimp only; omega)) fun _ => cond_dec (fun _ => hK) fun h => absurd hb h
    · refine ⟨0, fun K N hK => ?_⟩
      unfold L30_1
      exact cond_dec (fun h => absurd h (by dsimp only; omega)) fun _ => cond_dec (fun h => absurd h hb) fun _ => hK

end Go.Proofs.Ytnpdeecoejabgaa
