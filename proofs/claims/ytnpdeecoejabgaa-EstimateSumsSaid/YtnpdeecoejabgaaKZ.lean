/- THE ABSTRACT MACHINE, 24: what a reading of an argument says, as pure data. -/
import Derived.Test.YtnpdeecoejabgaaKX
import Derived.ChangeArms
import Derived.OpenShut
import Derived.DataReads
set_option linter.unusedSimpArgs false
set_option linter.unusedVariables false
namespace Go.Proofs.Ytnpdeecoejabgaa
open Go Go.RowKit

/-- Cells of pure data that are of a type. -/
def HasT (P : Program) : Nat → Nat → List C → Prop
  | 0, _, _ => False
  | n + 1, t, cs => match P.underlying t with
    | some .bool => ∃ b, cs = [.bool b]
    | some (.int k) => ∃ x, cs = [.int k x] ∧ (Lit.int k x).wf = true
    | some .string => ∃ s, cs = [.str s] ∧ s.size ≤ maxLen
    | some (.slice e) => ∃ xs, cs = [.sl xs] ∧ xs.length ≤ maxLen ∧ ∀ x ∈ xs, x.length = P.cellsOf e ∧ HasT P n e x
    | some (.struct fs) => cs.length = P.cellsOf t ∧ ∀ f ∈ fs.toList, HasT P n f.type ((cs.drop f.offset).take (P.cellsOf f.type))
    | some (.array m e) => cs.length = P.cellsOf t ∧ ∀ i, i < m → HasT P n e ((cs.drop (i * P.cellsOf e)).take (P.cellsOf e))
    | _ => False

/-- Fields that lie one behind the other. -/
def laidFs (P : Program) : List Field → Nat → Option Nat
  | [], off => some off
  | f :: fs, off => if f.offset == off then laidFs P fs (off + P.cellsOf f.type) else none

/-- Types whose values are pure data. -/
def layT (P : Program) : Nat → Nat → Bool
  | 0, _ => false
  | n + 1, t => match P.underlying t with
    | some .bool | some (.int _) | some .string => P.cellsOf t == 1
    | some (.slice e) => P.cellsOf t == 1 && decide (0 < P.cellsOf e) && layT P n e
    | some (.struct fs) => laidFs P fs.toList 0 == some (P.cellsOf t) && fs.toList.all fun f => layT P n f.type
    | some (.array m e) => P.cellsOf t == m * P.cellsOf e && layT P n e
    | _ => false

section
variable {P : Program} {w : World} {H : Type} {enc : TypeId × Value → H} {base : Nat} {sp : Nat → Bool} {held : Bool}

/-- Cells stand at values. -/
def Reps (w : World) (X : Nat → Prop) (xs : List C) (cs : List Value) : Prop := xs.length = cs.length ∧ ∀ (j : Nat) (c : C) (v : Value), xs[j]? = some c → cs[j]? = some v → RepC w X c v

theorem Reps.one {X : Nat → Prop} {c : C} {v : Value} (h : RepC w X c v) : Reps w X [c] [v] := ⟨rfl, fun j c' v' h1 h2 => by
  cases j with
  | zero => simp at h1 h2; subst h1; subst h2; exact h
  | succ j => simp at h1⟩

theorem Reps.append {X : Nat → Prop} {xs ys : List C} {cs ds : List Value} (h : Reps w X xs cs) (k : Reps w X ys ds) : Reps w X (xs ++ ys) (cs ++ ds) := by
  refine ⟨by simp [h.1, k.1], fun j c v h1 h2 => ?_⟩
  rcases Nat.lt_or_ge j xs.length with hl | hl
  · rw [List.getElem?_append_left hl] at h1
    rw [List.getElem?_append_left (by rw [← h.1]; exact hl)] at h2
    exact h.2 j c v h1 h2
  · rw [List.getElem?_append_right hl] at h1
    rw [List.getElem?_append_right (by rw [← h.1]; exact hl), ← h.1] at h2
    exact k.2 _ c v h1 h2

theorem laid_ge : ∀ {l : List Field} {off total : Nat}, laidFs P l off = some total → off ≤ total ∧ ∀ f ∈ l, off ≤ f.offset ∧ f.offset + P.cellsOf f.type ≤ total
  | [], off, total, h => by simp only [laidFs, Option.some.injEq] at h; subst h; exact ⟨Nat.le_refl _, fun f hf => by cases hf⟩
  | f :: l, off, total, h => by
    simp only [laidFs] at h
    split at h
    · rename_i he
      have he' : f.offset = off := by simpa using he
      obtain ⟨h1, h2⟩ := laid_ge h
      refine ⟨by omega, fun g hg => ?_⟩
      rcases List.mem_cons.1 hg with rfl | hg
      · omega
      · have := h2 g hg; omega
    · cases h

theorem take_split {α : Type} (l : List α) (off a b : Nat) : (l.drop off).take (a + b) = (l.drop off).take a ++ (l.drop (off + a)).take b := by
  rw [List.take_add, List.drop_drop]

theorem lay_concat {n : Nat} {cs : List Value} : ∀ (l : List Field) (off total : Nat), laidFs P l off = some total → total ≤ cs.length →
    (∀ f ∈ l, ∃ x, HasT P n f.type x ∧ Reps w (fun _ => False) x ((cs.drop f.offset).take (P.cellsOf f.type))) →
      ∃ zs, Reps w (fun _ => False) zs ((cs.drop off).take (total - off)) ∧ ∀ f ∈ l, HasT P n f.type ((zs.drop (f.offset - off)).take (P.cellsOf f.type))
  | [], off, total, h, _, _ => by
    simp only [laidFs, Option.some.injEq] at h
    subst h
    exact ⟨[], by simp [Reps], fun f hf => by cases hf⟩
  | f :: l, off, total, h, ht, hx => by
    simp only [laidFs] at h
    split at h
    · rename_i he
      have he' : f.offset = off := by simpa using he
      obtain ⟨zs, h1, h2⟩ := lay_concat l _ _ h ht fun g hg => hx g (by simp [hg])
      obtain ⟨x, h3, h4⟩ := hx f (by simp)
      obtain ⟨g1, g2⟩ := laid_ge h
      have hxl : x.length = P.cellsOf f.type := by rw [h4.1]; simp; omega
      rw [he'] at h4
      refine ⟨x ++ zs, ?_, fun g hg => ?_⟩
      · have e1 : total - off = P.cellsOf f.type + (total - (off + P.cellsOf f.type)) := by omega
        rw [e1, take_split]
        exact h4.append h1
      · rcases List.mem_cons.1 hg with rfl | hg
        · rw [he', Nat.sub_self, List.drop_zero, ← hxl, List.take_left]
          exact h3
        · have h5 := (g2 g hg).1
          have e2 : g.offset - off = x.length + (g.offset - (off + P.cellsOf f.type)) := by omega
          rw [e2, ← List.drop_drop, List.drop_left]
          exact h2 g hg
    · cases h

theorem arr_concat {n : Nat} {e : TypeId} {cs : List Value} {c : Nat} : ∀ (m : Nat), m * c ≤ cs.length → (∀ i, i < m → ∃ x, HasT P n e x ∧ Reps w (fun _ => False) x ((cs.drop (i * c)).take c)) →
    ∃ zs, Reps w (fun _ => False) zs (cs.take (m * c)) ∧ ∀ i, i < m → HasT P n e ((zs.drop (i * c)).take c)
  | 0, _, _ => ⟨[], by simp [Reps], fun i hi => by omega⟩
  | m + 1, hl, hx => by
    have hmc : (m + 1) * c = m * c + c := Nat.succ_mul m c
    obtain ⟨zs, h1, h2⟩ := arr_concat m (by omega) fun i hi => hx i (by omega)
    obtain ⟨x, h3, h4⟩ := hx m (by omega)
    have hzl : zs.length = m * c := by rw [h1.1]; simp; omega
    have hxl : x.length = c := by rw [h4.1]; simp; omega
    refine ⟨zs ++ x, ?_, fun i hi => ?_⟩
    · have := take_split cs 0 (m * c) c
      rw [List.drop_zero, Nat.zero_add] at this
      rw [hmc, this]
      exact h1.append h4
    · rcases Nat.lt_or_ge i m with him | him
      · have h5 : i * c + c ≤ m * c := by rw [← Nat.succ_mul]; exact Nat.mul_le_mul_right c him
        rw [List.drop_append_of_le_length (by omega), List.take_append_of_le_length (by simp; omega)]
        exact h2 i him
      · have : i = m := by omega
        subst this
        rw [← hzl, List.drop_left, ← hxl, List.take_length]
        exact h3

/-- A reading gives pure data. -/
theorem trod_reps : ∀ (n : Nat) (t : TypeId) (fuel : Nat) (cs : List Value) (y : DataW H × List MemPlace), layT P n t = true → DataW.trod enc P w base sp held fuel t cs = some y →
    ∃ xs, HasT P n t xs ∧ cs.length = P.cellsOf t ∧ Reps w (fun _ => False) xs cs := by
  intro n
  induction n with
  | zero => intro t fuel cs y hl; cases hl
  | succ n ih =>
    intro t fuel cs y hl hy
    unfold layT at hl
    split at hl
    · rename_i hu
      obtain ⟨b, rfl, _⟩ := DataW.trod_bool hu hy
      exact ⟨[.bool b], by simp [HasT, hu], by simpa using (beq_iff_eq.1 hl).symm, .one (.bool b)⟩
    · rename_i k hu
      obtain ⟨x, rfl, _, hw⟩ := DataW.trod_int hu hy
      exact ⟨[.int k x], by simp [HasT, hu, hw], by simpa using (beq_iff_eq.1 hl).symm, .one (.int k x)⟩
    · rename_i hu
      obtain ⟨s, rfl, _, hs⟩ := DataW.trod_string hu hy
      exact ⟨[.str s], by simp [HasT, hu, hs], by simpa using (beq_iff_eq.1 hl).symm, .one (.str s)⟩
    · rename_i e hu
      simp only [Bool.and_eq_true, beq_iff_eq, decide_eq_true_eq] at hl
      obtain ⟨⟨h1, hpos⟩, hle⟩ := hl
      rcases DataW.trod_slice hu hy with ⟨rfl, _⟩ | ⟨a, len, cap, elems, rest, m, _, rfl, _, hb, hlc, hcm, hel, hget, _⟩
      · exact ⟨[.sl []], by simp [HasT, hu], by simp [h1], .one (.sl0 _ _)⟩
      · -- every element
        have each : ∀ i, i < len → ∃ (x : List C) (vs : List Value), w.cells? base (a.add (i * P.cellsOf e)) (P.cellsOf e) = some vs ∧ HasT P n e x ∧ Reps w (fun _ => False) x vs ∧ vs.length = P.cellsOf e := by
          intro i hi
          have h2 := hget i hi
          rw [List.getElem?_eq_getElem (by omega)] at h2
          obtain ⟨vs, h3, h4⟩ := Option.bind_eq_some_iff.1 h2
          obtain ⟨x, h5, h6, h7⟩ := ih e m vs _ hle h4
          exact ⟨x, vs, h3, h5, h7, h6⟩
        let X : Nat → List C := fun i => if h : i < len then Classical.choose (each i h) else []
        have hX : ∀ i, i < len → ∃ vs, w.cells? base (a.add (i * P.cellsOf e)) (P.cellsOf e) = some vs ∧ HasT P n e (X i) ∧ Reps w (fun _ => False) (X i) vs ∧ vs.length = P.cellsOf e := fun i hi => by
          have := Classical.choose_spec (each i hi)
          simp only [X, dif_pos hi]
          exact this
        refine ⟨[.sl ((List.range len).map X)], ?_, by simp [h1], .one ?_⟩
        · simp only [HasT, hu]
          refine ⟨_, rfl, by simp; omega, fun x hx => ?_⟩
          obtain ⟨i, hi, rfl⟩ := List.mem_map.1 hx
          obtain ⟨vs, _, g2, g3, g4⟩ := hX i (List.mem_range.1 hi)
          exact ⟨g3.1.trans g4, g2⟩
        · by_cases h0 : len = 0
          · subst h0; exact .sl0 _ _
          · have cell : ∀ i, i < len → ∀ j (c : C), (X i)[j]? = some c → ∃ v, w.cell? ((a.add (i * P.cellsOf e)).add j) = some v ∧ RepC w (fun _ => False) c v := by
              intro i hi j c hj
              obtain ⟨vs, g1, g2, g3, g4⟩ := hX i hi
              have hjl : j < vs.length := by rw [← g3.1]; exact (List.getElem?_eq_some_iff.1 hj).1
              obtain ⟨_, k2, k3⟩ := World.cells?_some g1
              have hv := List.getElem?_eq_getElem hjl
              exact ⟨vs[j], by rw [k3 j (by omega), hv], g3.2 j c _ hj hv⟩
            have hspot : a.spot = none := by
              obtain ⟨vs, g1, g2, g3, g4⟩ := hX 0 (by omega)
              obtain ⟨_, k2, k3⟩ := World.cells?_some g1
              have h8 := k3 0 hpos
              simp only [Nat.zero_mul, Addr.add, if_true] at h8
              rw [List.getElem?_eq_getElem (by omega)] at h8
              unfold World.cell? at h8
              split at h8
              · split at h8
                · cases h8
                · rename_i hs; simpa using hs
              · cases h8
            have hblock : a.block < w.heap.size := by
              obtain ⟨vs, g1, _, _, g4⟩ := hX 0 (by omega)
              have := World.cells?_block g1 hpos
              rwa [add_block] at this
            have hadd : ∀ i j, (a.add (i * P.cellsOf e)).add j = a.add (i * P.cellsOf e + j) := fun i j => add_add a hspot _ _
            refine .sl _ a len cap (P.cellsOf e) (fun i j => (w.cell? (a.add (i * P.cellsOf e + j))).getD undef) (by simp) (fun x hx => ?_) (by have : maxLen = 9223372036854775807 := rfl; omega) hlc hspot (fun h => h) hblock (fun i x hi j c hj => ?_) (fun i x hi j c hj => ?_)
            · obtain ⟨i, hi, rfl⟩ := List.mem_map.1 hx
              obtain ⟨vs, _, g2, g3, g4⟩ := hX i (List.mem_range.1 hi)
              exact g3.1.trans g4
            · rw [List.getElem?_map] at hi
              have hil : i < len := by
                cases hri : (List.range len)[i]? with
                | none => rw [hri] at hi; cases hi
                | some k => have := (List.getElem?_eq_some_iff.1 hri).1; simpa using this
              rw [List.getElem?_range hil] at hi
              cases hi
              obtain ⟨v, g1, g2⟩ := cell i hil j c hj
              rw [hadd] at g1
              simp [g1]
            · rw [List.getElem?_map] at hi
              have hil : i < len := by
                cases hri : (List.range len)[i]? with
                | none => rw [hri] at hi; cases hi
                | some k => have := (List.getElem?_eq_some_iff.1 hri).1; simpa using this
              rw [List.getElem?_range hil] at hi
              cases hi
              obtain ⟨v, g1, g2⟩ := cell i hil j c hj
              rw [hadd] at g1
              simpa [g1] using g2
    · rename_i fs hu
      simp only [Bool.and_eq_true, beq_iff_eq, List.all_eq_true] at hl
      obtain ⟨hlay, hall⟩ := hl
      obtain ⟨xs, m, _, _, hcl, hxl, hget⟩ := DataW.trod_struct hu hy
      obtain ⟨zs, h1, h2⟩ := lay_concat (w := w) (n := n) (cs := cs) fs.toList 0 _ hlay (by omega) fun f hf => by
        obtain ⟨i, hi⟩ := List.getElem?_of_mem hf
        have hi' : fs[i]? = some f := by simpa using hi
        have h3 := hget i f hi'
        have hil : i < xs.length := by rw [hxl]; exact (Array.getElem?_eq_some_iff.1 hi').1
        rw [List.getElem?_eq_getElem hil] at h3
        obtain ⟨x, g1, _, g3⟩ := ih f.type m _ _ (hall f hf) h3
        exact ⟨x, g1, g3⟩
      rw [Nat.sub_zero, List.drop_zero, List.take_of_length_le (by omega)] at h1
      refine ⟨zs, ?_, hcl, h1⟩
      simp only [HasT, hu]
      exact ⟨h1.1.trans hcl, fun f hf => by simpa using h2 f hf⟩
    · rename_i m e hu
      simp only [Bool.and_eq_true, beq_iff_eq] at hl
      obtain ⟨hsz, hle⟩ := hl
      obtain ⟨xs, k, _, _, hcl, hxl, hget⟩ := DataW.trod_array hu hy
      obtain ⟨zs, h1, h2⟩ := arr_concat (w := w) (P := P) (n := n) (e := e) (cs := cs) (c := P.cellsOf e) m (by omega) fun i hi => by
        have h3 := hget i hi
        have hil : i < xs.length := by omega
        rw [List.getElem?_eq_getElem hil] at h3
        obtain ⟨x, g1, _, g3⟩ := ih e k _ _ hle h3
        exact ⟨x, g1, g3⟩
      rw [List.take_of_length_le (by omega)] at h1
      refine ⟨zs, ?_, hcl, h1⟩
      simp only [HasT, hu]
      exact ⟨h1.1.trans hcl, h2⟩
    · cases hl

end
end Go.Proofs.Ytnpdeecoejabgaa
