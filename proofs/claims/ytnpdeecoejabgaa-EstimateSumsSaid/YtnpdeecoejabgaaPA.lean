/- PLAIN LAWS, 1: words of the shallow forms; what is known of traces. -/
import Derived.Test.YtnpdeecoejabgaaFA
import Derived.IntWalk
set_option maxRecDepth 100000
set_option linter.unusedSimpArgs false
set_option linter.unusedVariables false
namespace Go.Proofs.Ytnpdeecoejabgaa
open Go Go.RowKit

theorem w64_in {n : Int} (h1 : -9223372036854775808 ≤ n) (h2 : n ≤ 9223372036854775807) : w64 n = n := IntWalk.i64_in n ⟨h1, h2⟩
theorem u64_in {n : Int} (h1 : 0 ≤ n) (h2 : n ≤ 18446744073709551615) : IntKind.wrap .u64 n = n := IntWalk.u64_in n ⟨h1, h2⟩
theorem u8_in {n : Int} (h1 : 0 ≤ n) (h2 : n ≤ 255) : IntKind.wrap .u8 n = n := IntWalk.u8_in n ⟨h1, h2⟩
theorem tmod_in {n m : Int} (h1 : 0 ≤ n) (h2 : 0 < m) : 0 ≤ Int.tmod n m ∧ Int.tmod n m < m ∧ Int.tmod n m ≤ n := by
  rw [Int.tmod_eq_emod_of_nonneg h1]
  exact ⟨Int.emod_nonneg _ (by omega), Int.emod_lt_of_pos _ h2, by
    have e1 := Int.mul_ediv_add_emod n m
    have e2 := Int.mul_nonneg (Int.le_of_lt h2) (Int.ediv_nonneg h1 (Int.le_of_lt h2))
    omega⟩

theorem cond_dec {p : Prop} [Decidable p] {A B : Prop} (h1 : p → A) (h2 : ¬ p → B) : Cond (decide p) A B := ⟨fun h => h1 (of_decide_eq_true h), fun h => h2 (of_decide_eq_false h)⟩
theorem cond_bool {b : Bool} {A B : Prop} (h1 : b = true → A) (h2 : b = false → B) : Cond b A B := ⟨h1, h2⟩
theorem cond_not {b : Bool} {A B : Prop} (h1 : b = false → A) (h2 : b = true → B) : Cond (!b) A B := ⟨fun h => h1 (by simpa using h), fun h => h2 (by simpa using h)⟩
theorem cond_same {t : Bool} {A : Prop} (h : A) : Cond t A A := ⟨fun _ => h, fun _ => h⟩

theorem idx_nat {α : Type} {xs : List α} {i : Nat} {K : α → Prop} (hi : i < xs.length) (h : ∀ x, xs[i]? = some x → K x) : Idx xs (i : Int) K :=
  ⟨Int.natCast_nonneg _, xs[i], by simp [hi], h _ (by simp [hi])⟩
theorem idx_of {α : Type} {xs : List α} {i : Int} {K : α → Prop} (h0 : 0 ≤ i) (hi : i < (xs.length : Int)) (h : ∀ x, xs[i.toNat]? = some x → K x) : Idx xs i K := by
  have : i.toNat < xs.length := by omega
  exact ⟨h0, xs[i.toNat], by simp [this], h _ (by simp [this])⟩

/-- A loop with a counter. -/
theorem loop_idx {S : Type} {body : S → (S → Prop) → Prop} {s0 : S} (n : Nat) (St : Nat → S → Prop) (h0 : St 0 s0)
    (h : ∀ i s N, i ≤ n → St i s → (∀ s', i < n → St (i + 1) s' → N s') → body s N) : LoopW body s0 := by
  refine ⟨fun k s => ∃ i, i ≤ n ∧ k = n - i ∧ St i s, ⟨n, 0, Nat.zero_le _, rfl, h0⟩, ?_⟩
  rintro k s ⟨i, hi, rfl, hs⟩
  exact h i s _ hi hs fun s' hlt hs' => ⟨n - (i + 1), by omega, i + 1, by omega, rfl, hs'⟩
/-- A loop with a measure. -/
theorem loop_of {S : Type} {body : S → (S → Prop) → Prop} {s0 : S} (I : S → Prop) (m : S → Nat) (h0 : I s0) (h : ∀ s N, I s → (∀ s', I s' → m s' < m s → N s') → body s N) : LoopW body s0 := by
  refine ⟨fun k s => k = m s ∧ I s, ⟨_, rfl, h0⟩, ?_⟩
  rintro k s ⟨rfl, hs⟩
  exact h s _ hs fun s' h1 h2 => ⟨_, h2, rfl, h1⟩

theorem fits_of {n : Nat} {K : Prop} (hn : n ≤ 140737488355328) (h : K) : Fits n K := ⟨hn, h⟩

theorem mem_of_get {α : Type} {xs : List α} {i : Nat} {x : α} (h : xs[i]? = some x) : x ∈ xs := List.mem_of_getElem? h

def svcs : List ByteArray := [(⟨#[97, 112, 105]⟩ : ByteArray), (⟨#[100, 98]⟩ : ByteArray), (⟨#[119, 101, 98]⟩ : ByteArray), (⟨#[99, 97, 99, 104, 101]⟩ : ByteArray)]
def vers : List ByteArray := [(⟨#[118, 49]⟩ : ByteArray), (⟨#[118, 50]⟩ : ByteArray), (⟨#[]⟩ : ByteArray)]
def opss : List ByteArray := [(⟨#[103, 101, 116]⟩ : ByteArray), (⟨#[112, 117, 116]⟩ : ByteArray), (⟨#[108, 105, 115, 116]⟩ : ByteArray)]

structure GoodSpan (x : TSpan) : Prop where
  svc : x.service ∈ svcs
  ver : x.version ∈ vers
  op : x.operation ∈ opss
  lo : 0 ≤ x.start
  le : x.start ≤ x.end_
  hi : x.end_ ≤ 3000

structure GoodTrace (t : TTrace) : Prop where
  len : t.spans.length ≤ 8
  w1 : 1 ≤ t.weight
  w2 : t.weight ≤ 16
  spans : ∀ x ∈ t.spans, GoodSpan x

structure GoodL (l : List TTrace) : Prop where
  len : l.length ≤ 3
  all : ∀ t ∈ l, GoodTrace t

end Go.Proofs.Ytnpdeecoejabgaa
