/- PLAIN LAWS, 3: the order of groups; sorting; lines. -/
import Derived.Test.YtnpdeecoejabgaaPA
set_option maxRecDepth 100000
set_option linter.unusedSimpArgs false
set_option linter.unusedVariables false
namespace Go.Proofs.Ytnpdeecoejabgaa
open Go Go.RowKit

theorem bl_irrefl : ∀ (x : List UInt8), Op.bytesLess x x = false
  | [] => by simp [Op.bytesLess]
  | a :: x => by simp [Op.bytesLess, bl_irrefl x]
theorem bl_tri : ∀ (x y : List UInt8), Op.bytesLess x y = false → Op.bytesLess y x = false → x = y
  | [], [], _, _ => rfl
  | [], _ :: _, h, _ => by simp [Op.bytesLess] at h
  | _ :: _, [], _, h => by simp [Op.bytesLess] at h
  | a :: x, b :: y, h1, h2 => by
    rw [Op.bytesLess] at h1 h2
    simp only [Bool.or_eq_false_iff, decide_eq_false_iff_not, Bool.and_eq_false_iff, beq_eq_false_iff_ne] at h1 h2
    have e : a = b := UInt8.le_antisymm (UInt8.not_lt.1 h2.1) (UInt8.not_lt.1 h1.1)
    subst e
    rw [bl_tri x y (by rcases h1.2 with h | h; exact absurd rfl h; exact h) (by rcases h2.2 with h | h; exact absurd rfl h; exact h)]
theorem bl_trans : ∀ (x y z : List UInt8), Op.bytesLess x y = true → Op.bytesLess y z = true → Op.bytesLess x z = true
  | _, [], _, h, _ => by simp [Op.bytesLess] at h
  | _, _ :: _, [], _, h => by simp [Op.bytesLess] at h
  | [], _ :: _, _ :: _, _, _ => by simp [Op.bytesLess]
  | a :: x, b :: y, c :: z, h1, h2 => by
    rw [Op.bytesLess] at h1 h2 ⊢
    simp only [Bool.or_eq_true, decide_eq_true_eq, Bool.and_eq_true, beq_iff_eq] at h1 h2 ⊢
    rcases h1 with h1 | ⟨rfl, h1⟩ <;> rcases h2 with h2 | ⟨rfl, h2⟩
    · exact .inl (UInt8.lt_trans h1 h2)
    · exact .inl h1
    · exact .inl h2
    · exact .inr ⟨rfl, bl_trans x y z h1 h2⟩

def sl (x y : ByteArray) : Bool := Op.bytesLess x.toList y.toList
theorem sl_irrefl (x : ByteArray) : sl x x = false := bl_irrefl _
theorem sl_trans {x y z : ByteArray} (h1 : sl x y = true) (h2 : sl y z = true) : sl x z = true := bl_trans _ _ _ h1 h2
theorem sl_tri {x y : ByteArray} (h1 : sl x y = false) (h2 : sl y x = false) : x = y := by
  have := bl_tri _ _ h1 h2
  rw [ByteArray.toList_eq, ByteArray.toList_eq] at this
  exact ByteArray.ext (Array.toList_inj.1 this)

/-- What cmp.Compare gives for strings. -/
def cS (x y : ByteArray) : Int := if sl x y = true then -1 else if x = y then 0 else 1

theorem W82_of {x y : ByteArray} {K : Int → Prop} (h : K (cS x y)) : W82 x y K := by
  unfold W82 W97
  dsimp only
  refine cond_dec (fun h => absurd rfl h) fun _ => cond_dec (fun h => absurd rfl h) fun _ => ?_
  unfold cS sl at h
  refine cond_bool (fun h1 => by rw [if_pos h1] at h; exact h) fun h1 => ?_
  rw [if_neg (by rw [h1]; simp)] at h
  refine cond_not (fun h2 => ?_) fun h2 => ?_
  · rw [h1] at h2
    rw [if_neg (by simpa using h2)] at h; exact h
  · rw [h1] at h2
    rw [if_pos (by simpa using h2)] at h; exact h

def cOr (a b c : Int) : Int := if a ≠ 0 then a else if b ≠ 0 then b else c
def cmpG (a b : TGroup) : Int := cOr (cS a.service b.service) (cS a.version b.version) (cS a.operation b.operation)

theorem W81_of {a b c : Int} {K : Int → Prop} (h : K (cOr a b c)) : W81 [a, b, c] K := by
  unfold W81
  refine loop_idx 3 (fun i v => v = (i : Int) ∧ (0 < i → a = 0) ∧ (1 < i → b = 0) ∧ (2 < i → c = 0)) ⟨rfl, by omega, by omega, by omega⟩ ?_
  rintro i v N hi ⟨rfl, h1, h2, h3⟩ hN
  unfold L81_1
  have e1 : w64 ((i : Int) + 1) = (i : Int) + 1 := w64_in (by omega) (by omega)
  rw [e1]
  unfold cOr at h
  refine cond_dec (fun hlt => ?_) fun hge => ?_
  · simp only [List.length_cons, List.length_nil] at hlt
    refine idx_nat (by simp; omega) fun x hx => cond_dec (fun hne => ?_) fun he => ?_
    · match i, hx with
      | 0, hx => simp at hx; subst hx; rw [if_pos hne] at h; exact h
      | 1, hx => simp at hx; subst hx; rw [if_neg (by simpa using h1 (by omega)), if_pos hne] at h; exact h
      | 2, hx => simp at hx; subst hx; rw [if_neg (by simpa using h1 (by omega)), if_neg (by simpa using h2 (by omega))] at h; exact h
    · have he : x = 0 := Decidable.not_not.1 he
      subst he
      refine hN _ (by omega) ⟨by simp, ?_, ?_, ?_⟩
      · intro _; match i, hx with
        | 0, hx => simpa using hx
        | 1, hx => exact h1 (by omega)
        | 2, hx => exact h1 (by omega)
      · intro _; match i, hx with
        | 0, hx => omega
        | 1, hx => simpa using hx
        | 2, hx => exact h2 (by omega)
      · intro _; match i, hx with
        | 0, hx => omega
        | 1, hx => omega
        | 2, hx => simpa using hx
  · simp only [List.length_cons, List.length_nil] at hge
    have : i = 3 := by omega
    subst this
    rw [if_neg (by simpa using h1 (by omega)), if_neg (by simpa using h2 (by omega)), h3 (by omega)] at h
    exact h

theorem W66_of {a b : TLine} {K : Int → Prop} (h : K (cmpG a.group b.group)) : W66 a b K := by
  unfold W66 W67
  exact W82_of (W82_of (W82_of (W81_of h)))

/-- The order of groups. -/
def gl (a b : TGroup) : Prop := cmpG a b < 0
theorem cS_neg {x y : ByteArray} : cS x y < 0 ↔ sl x y = true := by
  unfold cS; split
  · simp [*]
  · rename_i h
    split
    · rename_i e; subst e; simp [sl_irrefl]
    · simp [h]
theorem cS_zero {x y : ByteArray} : cS x y = 0 ↔ x = y := by
  unfold cS; split
  · rename_i h
    constructor
    · intro h; simp at h
    · rintro rfl; rw [sl_irrefl] at h; cases h
  · split <;> simp [*]
theorem gl_iff {a b : TGroup} : gl a b ↔ sl a.service b.service = true ∨ (a.service = b.service ∧ (sl a.version b.version = true ∨ (a.version = b.version ∧ sl a.operation b.operation = true))) := by
  unfold gl cmpG cOr
  by_cases h1 : cS a.service b.service = 0
  · rw [if_neg (by simpa using h1)]
    have e1 := cS_zero.1 h1
    by_cases h2 : cS a.version b.version = 0
    · rw [if_neg (by simpa using h2), cS_neg]
      have e2 := cS_zero.1 h2
      rw [e1, e2, sl_irrefl, sl_irrefl]; simp
    · rw [if_pos h2, cS_neg]
      have e2 : ¬ a.version = b.version := fun e => h2 (cS_zero.2 e)
      rw [e1, sl_irrefl]; simp [e2]
  · rw [if_pos h1, cS_neg]
    have e1 : ¬ a.service = b.service := fun e => h1 (cS_zero.2 e)
    simp [e1]
theorem gl_irrefl (a : TGroup) : ¬ gl a a := by rw [gl_iff]; simp [sl_irrefl]
theorem gl_trans {a b c : TGroup} (h1 : gl a b) (h2 : gl b c) : gl a c := by
  rw [gl_iff] at *
  rcases h1 with h1 | ⟨e1, h1⟩ <;> rcases h2 with h2 | ⟨e2, h2⟩
  · exact .inl (sl_trans h1 h2)
  · exact .inl (e2 ▸ h1)
  · exact .inl (e1 ▸ h2)
  · refine .inr ⟨e1.trans e2, ?_⟩
    rcases h1 with h1 | ⟨e3, h1⟩ <;> rcases h2 with h2 | ⟨e4, h2⟩
    · exact .inl (sl_trans h1 h2)
    · exact .inl (e4 ▸ h1)
    · exact .inl (e3 ▸ h2)
    · exact .inr ⟨e3.trans e4, sl_trans h1 h2⟩
theorem gl_tri {a b : TGroup} (h1 : ¬ gl a b) (h2 : ¬ gl b a) : a = b := by
  rw [gl_iff] at h1 h2
  simp only [not_or, not_and, Bool.not_eq_true] at h1 h2
  have e1 := sl_tri h1.1 h2.1
  have h3 := h1.2 e1
  have h4 := h2.2 e1.symm
  have e2 := sl_tri h3.1 h4.1
  have e3 := sl_tri (h3.2 e2) (h4.2 e2.symm)
  cases a; cases b; simp_all
/-- Not greater. -/
theorem ge_trans {a b c : TGroup} (h1 : ¬ gl b a) (h2 : ¬ gl c b) : ¬ gl c a := by
  intro h
  by_cases h3 : gl a b
  · exact h2 (gl_trans h h3)
  · have := gl_tri h3 h1
    subst this; exact h2 h

/-! ### Sorting -/
def Sorted (l : List TLine) : Prop := l.Pairwise fun a b => ¬ gl b.group a.group

theorem W88_of {data : List TLine} (hl : data.length ≤ 1000) {K : List TLine → Prop} (h : ∀ r, r.Perm data → Sorted r → K r) : W88c66 data 0 (data.length : Int) K := by
  unfold W88c66
  have e1 : w64 ((0 : Int) + 1) = 1 := by decide
  rw [e1]
  refine loop_of (fun (v : List TLine × Int) => v.1.Perm data ∧ 1 ≤ v.2 ∧ (v.2 ≤ data.length ∨ v.2 = 1) ∧ ∀ (p q : Nat) (a b : TLine), p < q → (q : Int) < v.2 → v.1[p]? = some a → v.1[q]? = some b → ¬ gl b.group a.group) (fun v => (data.length - v.2).toNat)
    ⟨.refl _, by simp, .inr rfl, fun p q a b h1 h2 => by dsimp only at h2; omega⟩ ?_
  rintro ⟨l, i⟩ N ⟨hp, hi1, hi2, hs⟩ hN
  dsimp only at hp hi1 hi2 hs ⊢
  have hlen : l.length = data.length := hp.length_eq
  unfold L88c66_1
  refine cond_dec (fun hlt => ?_) fun hge => ?_
  · have e2 : w64 (i + 1) = i + 1 := w64_in (by omega) (by omega)
    refine loop_of (fun (v : List TLine × Int) => v.1.Perm data ∧ 0 ≤ v.2 ∧ v.2 ≤ i ∧ (∀ (p q : Nat) (a b : TLine), p < q → (q : Int) ≤ i → (p : Int) ≠ v.2 → (q : Int) ≠ v.2 → v.1[p]? = some a → v.1[q]? = some b → ¬ gl b.group a.group) ∧
        ∀ (q : Nat) (a b : TLine), v.2 < (q : Int) → (q : Int) ≤ i → v.1[v.2.toNat]? = some a → v.1[q]? = some b → ¬ gl b.group a.group) (fun v => v.2.toNat)
      ⟨hp, by omega, by omega, fun p q a b h1 h2 h3 h4 => hs p q a b h1 (by dsimp only at h4; omega), fun q a b h1 h2 => by dsimp only at h1; omega⟩ ?_
    rintro ⟨m, j⟩ N' ⟨gp, gj1, gj2, P1, P2⟩ hN'
    dsimp only at gp gj1 gj2 P1 P2 ⊢
    have hml : m.length = data.length := gp.length_eq
    unfold L88c66_2
    -- the way out
    have out : (∀ (p : Nat) (a b : TLine), (p : Int) < j → m[p]? = some a → m[j.toNat]? = some b → ¬ gl b.group a.group) → J88c66_3 m j N' N i false := by
      intro hout
      unfold J88c66_3
      refine ⟨fun h => (by cases h), fun _ => ?_⟩
      rw [e2]
      refine hN _ ⟨gp, by dsimp only; omega, .inl (by dsimp only; omega), fun p q a b h1 h2 ha hb => ?_⟩ (by dsimp only; omega)
      dsimp only at h2 ha hb
      by_cases hpj : (p : Int) = j
      · subst hpj
        exact P2 q a b (by omega) (by omega) (by simpa using ha) hb
      · by_cases hqj : (q : Int) = j
        · subst hqj
          exact hout p a b (by omega) ha (by simpa using hb)
        · exact P1 p q a b h1 (by omega) hpj hqj ha hb
    refine cond_dec (fun hj0 => ?_) fun hj0 => out fun p a b h1 => by omega
    have e3 : w64 (j - 1) = j - 1 := w64_in (by omega) (by omega)
    rw [e3]
    refine idx_of (by omega) (by omega) fun x hx => idx_of (by omega) (by omega) fun y hy => W66_of ?_
    by_cases hc : cmpG x.group y.group < 0
    · have : decide (cmpG x.group y.group < 0) = true := decide_eq_true hc
      rw [this]
      unfold J88c66_3
      refine ⟨fun _ => ?_, fun h => (by cases h)⟩
      rw [e3]
      have hjl : j.toNat < m.length := by omega
      have hjl2 : (j - 1).toNat < m.length := by omega
      refine idx_of (by omega) (by omega) fun y' hy' => idx_of (by omega) (by omega) fun x' hx' => ?_
      rw [hy] at hy'; cases hy'
      rw [hx] at hx'; cases hx'
      refine idx_of (by omega) (by simp; omega) fun _ _ => ?_
      have hget : ∀ (p : Nat) (a : TLine), ((m.set j.toNat y).set (j - 1).toNat x)[p]? = some a → (p = (j - 1).toNat ∧ a = x) ∨ (p = j.toNat ∧ a = y) ∨ (p ≠ (j - 1).toNat ∧ p ≠ j.toNat ∧ m[p]? = some a) := by
        intro p a ha
        by_cases e : p = (j - 1).toNat
        · subst e
          rw [List.getElem?_set_self (by simpa using hjl2)] at ha
          exact .inl ⟨rfl, (Option.some.inj ha).symm⟩
        · rw [List.getElem?_set_ne (Ne.symm e)] at ha
          by_cases e' : p = j.toNat
          · subst e'
            rw [List.getElem?_set_self hjl] at ha
            exact .inr (.inl ⟨rfl, (Option.some.inj ha).symm⟩)
          · rw [List.getElem?_set_ne (Ne.symm e')] at ha
            exact .inr (.inr ⟨e, e', ha⟩)
      refine hN' _ ⟨?_, by dsimp only; omega, by dsimp only; omega, ?_, ?_⟩ (by dsimp only; omega)
      · dsimp only
        refine List.Perm.trans ?_ gp
        have := List.set_set_perm hjl hjl2
        rw [(List.getElem?_eq_some_iff.1 hx).2, (List.getElem?_eq_some_iff.1 hy).2] at this
        exact this
      · intro p q a b h1 h2 h3 h4 ha hb
        dsimp only at h3 h4 ha hb
        rcases hget p a ha with ⟨rfl, _⟩ | ⟨rfl, rfl⟩ | ⟨k1, k2, ha'⟩
        · omega
        · rcases hget q b hb with ⟨rfl, _⟩ | ⟨rfl, _⟩ | ⟨k3, k4, hb⟩
          · omega
          · omega
          · exact P1 (j - 1).toNat q _ b (by omega) h2 (by omega) (by omega) hy hb
        · rcases hget q b hb with ⟨rfl, _⟩ | ⟨rfl, rfl⟩ | ⟨k3, k4, hb⟩
          · omega
          · exact P1 p (j - 1).toNat a _ (by omega) (by omega) (by omega) (by omega) ha' hy
          · exact P1 p q a b h1 h2 (by omega) (by omega) ha' hb
      · intro q a b h1 h2 ha hb
        dsimp only at h1 ha hb
        rcases hget _ a ha with ⟨_, rfl⟩ | ⟨k, _⟩ | ⟨k, _⟩
        · rcases hget q b hb with ⟨rfl, _⟩ | ⟨rfl, rfl⟩ | ⟨k3, k4, hb⟩
          · omega
          · intro hg
            exact gl_irrefl _ (gl_trans hc hg)
          · exact P2 q _ b (by omega) h2 hx hb
        · omega
        · omega
    · have : decide (cmpG x.group y.group < 0) = false := decide_eq_false hc
      rw [this]
      refine out fun p a b h1 ha hb => ?_
      rw [hx] at hb; cases hb
      by_cases e : (p : Int) = j - 1
      · have : p = (j - 1).toNat := by omega
        subst this
        rw [hy] at ha; cases ha
        exact hc
      · exact ge_trans (P1 p (j - 1).toNat a y (by omega) (by omega) (by omega) (by omega) ha hy) hc
  · refine ⟨hlen, h l hp ?_⟩
    refine List.pairwise_iff_getElem.2 fun p q hp' hq' hpq => hs p q _ _ hpq (by omega) (by simp) (by simp)

theorem W74_of {x : Int} (h1 : 0 ≤ x) (h2 : x ≤ 255) {K : Int → Prop} (h : ∀ r, K r) : W74 x K := by
  unfold W74 W87
  refine cond_dec (fun _ => by omega) fun _ => ?_
  unfold J87_1
  refine cond_dec (fun _ => by omega) fun _ => ?_
  unfold J87_2
  refine cond_dec (fun _ => by omega) fun _ => ?_
  unfold J87_3
  rw [u8_in h1 h2]
  refine ⟨h1, ?_⟩
  have hs : x.toNat < 256 := by omega
  generalize x.toNat = n at hs
  refine ⟨_, getElem?_pos _ n ?_, h _⟩
  exact hs

theorem W65_of {data : List TLine} (hl : data.length ≤ 12) {K : List TLine → Prop} (h : ∀ r, r.Perm data → Sorted r → K r) : W65c66 data K := by
  unfold W65c66
  rw [u64_in (by omega) (by omega)]
  refine W74_of (by omega) (by omega) fun r => ?_
  unfold W80c66
  refine ⟨fun k s => k = 0, ⟨0, rfl⟩, fun k s _ => ?_⟩
  unfold L80c66_1
  rw [w64_in (by omega) (by omega)]
  refine ⟨by simp; omega, W88_of (by omega) fun r hp hs => ⟨hp.length_eq, hp.length_eq, h r hp hs⟩⟩

/-! ### Lines -/
def mkLine (e : TGroup × TTotal) : TLine := ⟨e.1, e.2⟩

theorem erase_perm {α : Type} : ∀ (l : List α) (j : Nat) (e : α), l[j]? = some e → (e :: l.eraseIdx j).Perm l
  | x :: l, 0, e, h => by simp at h; subst h; exact .refl _
  | x :: l, j + 1, e, h => by
    simp only [List.getElem?_cons_succ] at h
    simp only [List.eraseIdx_cons_succ]
    exact (List.Perm.swap _ _ _).trans ((erase_perm l j e h).cons x)

theorem W40_of {m : List (TGroup × TTotal)} (hm : m.length ≤ 12) {K : List TLine → Prop} (h : ∀ r, r.Perm (m.map mkLine) → Sorted r → K r) : W40 m K := by
  unfold W40
  refine loop_of (fun (v : List TLine × List (TGroup × TTotal)) => (v.1 ++ v.2.map mkLine).Perm (m.map mkLine)) (fun v => v.2.length) (by simp) ?_
  rintro ⟨out, left⟩ N hp hN
  dsimp only at hp ⊢
  have hlen := hp.length_eq
  simp only [List.length_append, List.length_map] at hlen
  unfold L40_1
  refine ⟨fun he => ?_, fun j e he => ?_⟩
  · subst he
    simp only [List.map_nil, List.append_nil] at hp
    exact W65_of (by simp at hlen; omega) fun r h1 h2 => h r (h1.trans hp) h2
  · have h1 := erase_perm left j e he
    have h2 := h1.length_eq
    simp only [List.length_cons] at h2
    refine fits_of (by simp; omega) (hN _ ?_ (by dsimp only; omega))
    dsimp only
    rw [List.append_assoc]
    refine List.Perm.trans ?_ hp
    refine List.Perm.append_left _ ?_
    exact (h1.map mkLine)

end Go.Proofs.Ytnpdeecoejabgaa
