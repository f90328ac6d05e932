/- THE ABSTRACT MACHINE, 15: what is handed to a callee: pure data out of cells. -/
import Derived.Test.YtnpdeecoejabgaaKY
set_option linter.unusedSimpArgs false
set_option linter.unusedVariables false
namespace Go.Proofs.Ytnpdeecoejabgaa
open Go Go.RowKit

section
variable {P : Program} {o : Oper} {cx : Ctx} {μ : Nat → Option Nat} {σ : ASt} {a : Act} {w : World}

theorem allSome_get {α β : Type} {f : α → Option β} {l : List α} {r : List β} (h : allSome (l.map f) = some r) : r.length = l.length ∧ ∀ (i : Nat) (x : α), l[i]? = some x → ∃ y, r[i]? = some y ∧ f x = some y := by
  have hs := allSome_spec h
  have hl : r.length = l.length := by simpa using (congrArg List.length hs).symm
  refine ⟨hl, fun i x hx => ?_⟩
  have h1 := congrArg (·[i]?) hs
  simp only [List.getElem?_map, hx, Option.map_some] at h1
  cases hr : r[i]? with
  | none => rw [hr] at h1; simp at h1
  | some y => rw [hr] at h1; simp only [Option.map_some, Option.some.injEq] at h1; exact ⟨y, rfl, h1⟩

theorem pureRow_spec {xs : List (List AC)} {ys : List (List C)} (h : pureRow xs = some ys) : xs = dmm ys := by
  have h1 := allSome_get h
  apply List.ext_getElem?
  intro i
  cases hx : xs[i]? with
  | none =>
    have : ys.length ≤ i := by rw [h1.1]; exact List.getElem?_eq_none_iff.1 hx
    simp [this]
  | some x =>
    obtain ⟨y, h2, h3⟩ := h1.2 i x hx
    simp [h2, pureCells_spec h3]

/-- What is pure stands where its cells stand; it leads only to what was reached. -/
theorem frz_rel (h : Rel cx μ σ a w) {X : Nat → Prop} (hX : ∀ b, X b → Xs cx.X0 σ.o μ b) : ∀ (n : Nat) (c : AC) (x : C) (v : Value), frz σ n c = some x → RCl cx μ σ w c v → (∀ b, X b → ∀ k ∈ reach σ n c, μ k ≠ some b) → RepC w X x v := by
  intro n
  induction n with
  | zero => intro c x v hf; simp [frz] at hf
  | succ n ih =>
    intro c x v hf hc hr
    have lt : ∀ {b : Nat} {ob : Obj}, w.heap[b]? = some ob → b < w.heap.size := fun {b ob} hb => (Array.getElem?_eq_some_iff.1 hb).1
    have pure : ∀ {y : C} {u : Value}, RepC w (Xs cx.X0 σ.o μ) y u → RepC w X y u := fun hy => hy.mono (fun _ _ _ => rfl) (fun b _ hb hx => hb (hX b hx))
    cases c with
    | d c =>
      simp only [frz, Option.some.injEq] at hf
      subst hf
      cases hc with | d h1 => exact pure h1
    | nils =>
      simp only [frz, Option.some.injEq] at hf
      subst hf
      cases hc with | nils ad => exact .sl0 _ _
    | view k q lo m =>
      simp only [frz] at hf
      split at hf
      case isFalse => simp at hf
      rename_i hq
      split at hf
      case h_2 => simp at hf
      rename_i l E sz xs hrow
      split at hf
      case isFalse => simp at hf
      rename_i hle
      have ho2 := h.obj k
      unfold RelO at ho2
      rw [hrow] at ho2
      -- the pure elements
      have hys : ∃ zs, x = .sl zs ∧ zs.length = m ∧ ∀ (i : Nat) (z : List C), zs[i]? = some z → ∃ y, xs[lo + i]? = some y ∧ z.length = y.length ∧ ∀ (j : Nat) (c : C), z[j]? = some c → ∃ ac, y[j]? = some ac ∧ ∀ u, RCl cx μ σ w ac u → RepC w X c u := by
        split at hf
        · rename_i ys hys
          simp only [Option.some.injEq] at hf
          subst hf
          have := pureRow_spec hys
          subst this
          refine ⟨_, rfl, by simp at hle ⊢; omega, fun i z hz => ?_⟩
          rw [List.getElem?_take] at hz
          split at hz
          · rw [List.getElem?_drop] at hz
            refine ⟨dm z, by simp [hz], by simp, fun j c hj => ⟨.d c, by simp [hj], fun u hu => ?_⟩⟩
            cases hu with | d h1 => exact pure h1
          · cases hz
        · rename_i hnp
          obtain ⟨zs, hzs, rfl⟩ := Option.map_eq_some_iff.1 hf
          have h1 := allSome_get hzs
          refine ⟨zs, rfl, by rw [h1.1]; simp; omega, fun i z hz => ?_⟩
          have hil : i < ((xs.drop lo).take m).length := by rw [← h1.1]; exact (List.getElem?_eq_some_iff.1 hz).1
          obtain ⟨y, hy, hfy⟩ := h1.2 i _ (List.getElem?_eq_getElem hil)
          have hzy : y = z := by rw [hz] at hy; exact (Option.some.inj hy).symm
          subst hzy
          have hmem : ((xs.drop lo).take m)[i]? = some ((xs.drop lo).take m)[i] := List.getElem?_eq_getElem hil
          have hmem0 := hmem
          rw [List.getElem?_take] at hmem
          split at hmem
          · rw [List.getElem?_drop] at hmem
            have h2 := allSome_get hfy
            refine ⟨_, hmem, h2.1, fun j c hj => ?_⟩
            have hjl : j < (((xs.drop lo).take m)[i]).length := by rw [← h2.1]; exact (List.getElem?_eq_some_iff.1 hj).1
            obtain ⟨y', hy', hf'⟩ := h2.2 j _ (List.getElem?_eq_getElem hjl)
            have : y' = c := by rw [hj] at hy'; exact (Option.some.inj hy').symm
            subst this
            refine ⟨_, List.getElem?_eq_getElem hjl, fun u hu => ih _ _ _ hf' hu fun b hb k' hk' => hr b hb k' ?_⟩
            simp only [reach, hrow, hnp]
            refine List.mem_cons_of_mem _ (List.mem_flatMap.2 ⟨_, List.mem_of_getElem? hmem, List.mem_flatMap.2 ⟨_, List.getElem_mem hjl, hk'⟩⟩)
          · cases hmem
      obtain ⟨zs, rfl, hzl, hz⟩ := hys
      have hkr : k ∈ reach σ (n + 1) (.view k q lo m) := by simp [reach]
      rcases view_at hc hq hrow with ⟨_, _, rfl, ad, rfl⟩ | ⟨_, rfl, ad, c, rfl⟩ | ⟨b, cap, cur, h2, h3, h4, rfl, h6⟩
      · have : zs = [] := List.eq_nil_of_length_eq_zero hzl
        subst this; exact .sl0 _ _
      · have : zs = [] := List.eq_nil_of_length_eq_zero hzl
        subst this; exact .sl0 _ _
      · rcases ho2 with ⟨hn, _⟩ | ⟨b', cur', cap', g1, g2, g3, g4, g5, g6, g7, g8, g9⟩
        · rw [hn] at h2; cases h2
        have hbb : b' = b := by rw [g1] at h2; exact Option.some.inj h2
        subst hbb
        have hcc : cur' = cur := by rw [g2] at h3; cases h3; rfl
        subst hcc
        have cell : ∀ (i : Nat) (z : List C), zs[i]? = some z → ∀ (j : Nat) (c : C), z[j]? = some c → w.cell? ((⟨b', lo * sz, none⟩ : Addr).add (i * sz + j)) = some (cur'.getD ((lo + i) * sz + j) undef) ∧ RepC w X c (cur'.getD ((lo + i) * sz + j) undef) := by
          intro i z hzi j c hj
          obtain ⟨y, e1, e2, e3⟩ := hz i z hzi
          obtain ⟨ac, e4, e5⟩ := e3 j c hj
          obtain ⟨u, e6, e7⟩ := g8 (lo + i) y e1 j ac e4
          have e8 : cur'.getD ((lo + i) * sz + j) undef = u := by simp [e6]
          rw [e8, add_mk, cell_of_row w b' _ cur' E (0, 0) g2, ← Nat.add_assoc, ← Nat.add_mul, e6]
          exact ⟨rfl, e5 u e7⟩
        have hnX : ¬ X b' := fun hx => hr b' hx k hkr g1
        refine .sl zs _ m cap sz (fun i j => cur'.getD ((lo + i) * sz + j) undef) hzl (fun z hzm => ?_) (by omega) h6 rfl hnX (lt g2) (fun i z hzi j c hj => (cell i z hzi j c hj).1) (fun i z hzi j c hj => (cell i z hzi j c hj).2)
        obtain ⟨i, hi⟩ := List.getElem?_of_mem hzm
        obtain ⟨y, e1, e2, _⟩ := hz i z hi
        rw [e2]; exact g7 y (List.mem_of_getElem? e1)
    | ref k q m off =>
      simp only [frz] at hf
      split at hf
      case isFalse => simp at hf
      rename_i hq
      split at hf
      case h_2 => simp at hf
      rename_i l E sz xs hrow
      split at hf
      case h_2 => simp at hf
      rename_i y hy
      obtain ⟨zs, hzs, rfl⟩ := Option.map_eq_some_iff.1 hf
      have h1 := allSome_get hzs
      have hkr : k ∈ reach σ (n + 1) (.ref k q m off) := by simp [reach]
      cases hc with
      | ref hg hp hat =>
        have h2 := hat hq
        unfold RefAt at h2
        rw [hrow] at h2
        obtain ⟨b, hb, rfl⟩ := h2
        have ho2 := h.obj k
        unfold RelO at ho2
        rw [hrow] at ho2
        rcases ho2 with ⟨hn, _⟩ | ⟨b', cur, cap, g1, g2, g3, g4, g5, g6, g7, g8, g9⟩
        · rw [hn] at hb; cases hb
        have hbb : b' = b := by rw [g1] at hb; exact Option.some.inj hb
        subst hbb
        have hnX : ¬ X b' := fun hx => hr b' hx k hkr g1
        have cell : ∀ (j : Nat) (c : C), zs[j]? = some c → w.cell? ((⟨b', m * sz + off, none⟩ : Addr).add j) = some (cur.getD (m * sz + (off + j)) undef) ∧ RepC w X c (cur.getD (m * sz + (off + j)) undef) := by
          intro j c hj
          have hjl : j < (y.drop off).length := by rw [← h1.1]; exact (List.getElem?_eq_some_iff.1 hj).1
          obtain ⟨y', hy', hf'⟩ := h1.2 j _ (List.getElem?_eq_getElem hjl)
          have : y' = c := by rw [hj] at hy'; exact (Option.some.inj hy').symm
          subst this
          have e0 : y[off + j]? = some ((y.drop off)[j]) := by rw [← List.getElem?_drop]; exact List.getElem?_eq_getElem hjl
          obtain ⟨u, e6, e7⟩ := g8 m y hy (off + j) _ e0
          have e8 : cur.getD (m * sz + (off + j)) undef = u := by simp [e6]
          rw [e8, add_mk, cell_of_row w b' _ cur E (0, 0) g2, Nat.add_assoc, e6]
          refine ⟨rfl, ?_⟩
          cases hp2 : pureRow xs with
          | some ys =>
            have := pureRow_spec hp2
            subst this
            rw [List.getElem?_map] at hy
            cases hym : ys[m]? with
            | none => rw [hym] at hy; cases hy
            | some y0 =>
              rw [hym] at hy
              cases hy
              have hd : ∃ c0, (dm y0)[off + j]? = some (.d c0) := by
                rw [List.getElem?_map] at e0 ⊢
                cases hc0 : y0[off + j]? with
                | none => rw [hc0] at e0; cases e0
                | some c0 => exact ⟨c0, rfl⟩
              obtain ⟨c0, hd⟩ := hd
              rw [hd] at e0
              have e0' := (Option.some.inj e0).symm
              rw [e0'] at hf' e7
              cases n with
              | zero => simp [frz] at hf'
              | succ n =>
                simp only [frz, Option.some.injEq] at hf'
                subst hf'
                cases e7 with | d h3 => exact pure h3
          | none =>
            refine ih _ _ _ hf' e7 fun b hb k' hk' => hr b hb k' ?_
            simp only [reach, hrow, hp2]
            exact List.mem_cons_of_mem _ (List.mem_flatMap.2 ⟨y, List.mem_of_getElem? hy, List.mem_flatMap.2 ⟨_, List.mem_of_mem_drop (List.getElem_mem hjl), hk'⟩⟩)
        exact .ptr zs _ (fun j => cur.getD (m * sz + (off + j)) undef) rfl hnX (lt g2) (fun j c hj => (cell j c hj).1) (fun j c hj => (cell j c hj).2)
    | mpr k q =>
      simp only [frz] at hf
      split at hf
      case isFalse => simp at hf
      rename_i hq
      split at hf
      case h_2 => simp at hf
      rename_i l ka va es hrow
      simp only [Option.some.injEq] at hf
      subst hf
      cases hc with
      | mpr hg hp hat =>
        have h2 := hat hq
        unfold MprAt at h2
        rw [hrow] at h2
        obtain ⟨b, hb, rfl⟩ := h2
        have ho2 := h.obj k
        unfold RelO at ho2
        rw [hrow] at ho2
        obtain ⟨b', me, clock, g1, g2, g3, g4⟩ := ho2
        have hbb : b' = b := by rw [g1] at hb; exact Option.some.inj hb
        subst hbb
        have hnX : ¬ X b' := fun hx => hr b' hx k (by simp [reach]) g1
        have hme : ∀ (i : Nat) (e : List C × List C), es[i]? = some e → ∃ m, me[i]? = some m := fun i e he => by
          have : i < me.size := by rw [← g3.len]; exact (List.getElem?_eq_some_iff.1 he).1
          exact ⟨me[i], by simp [this]⟩
        refine .mp ka va es b' clock me (fun i j => (me.getD i default).key.cells.getD j undef) (fun i j => (me.getD i default).val.cells.getD j undef) hnX (lt g2) g2 g3.len g3.born g3.dist ?_ ?_ ?_ ?_
        · intro i e m he hm
          obtain ⟨e1, e2, e3, e4⟩ := g3.key i e m he hm
          refine ⟨e1, ?_, e3⟩
          have hmd : me.getD i default = m := by simp [hm]
          apply List.ext_getElem?
          intro j
          by_cases hj : j < e.1.length
          · have : j < m.key.cells.size := by omega
            simp [hmd, hj, this]
          · have : ¬ j < m.key.cells.size := by omega
            simp [hj, this]
        · intro i e m he hm
          obtain ⟨e1, e2, e3, e4⟩ := g3.val i e m he hm
          refine ⟨e1, ?_, e3⟩
          have hmd : me.getD i default = m := by simp [hm]
          apply List.ext_getElem?
          intro j
          by_cases hj : j < e.2.length
          · have : j < m.val.cells.size := by omega
            simp [hmd, hj, this]
          · have : ¬ j < m.val.cells.size := by omega
            simp [hj, this]
        · intro i e he j c hj
          obtain ⟨m, hm⟩ := hme i e he
          obtain ⟨e1, e2, e3, e4⟩ := g3.key i e m he hm
          have hjl : j < m.key.cells.size := by rw [e2]; exact (List.getElem?_eq_some_iff.1 hj).1
          have hmd : me.getD i default = m := by simp [hm]
          rw [hmd]
          refine pure (e4 j c _ hj ?_)
          simp [hjl]
        · intro i e he j c hj
          obtain ⟨m, hm⟩ := hme i e he
          obtain ⟨e1, e2, e3, e4⟩ := g3.val i e m he hm
          have hjl : j < m.val.cells.size := by rw [e2]; exact (List.getElem?_eq_some_iff.1 hj).1
          have hmd : me.getD i default = m := by simp [hm]
          rw [hmd]
          refine pure (e4 j c _ hj ?_)
          simp [hjl]
    | fn f caps =>
      simp only [frz] at hf
      obtain ⟨zs, hzs, rfl⟩ := Option.map_eq_some_iff.1 hf
      have h1 := allSome_get hzs
      cases hc with
      | fn fv hl hcc hcr =>
        have cap : ∀ (j : Nat) (c : C), zs[j]? = some c → ∃ ac, caps[j]? = some ac ∧ frz σ n ac = some c := fun j c hj => by
          have hjl : j < caps.length := by rw [← h1.1]; exact (List.getElem?_eq_some_iff.1 hj).1
          obtain ⟨y', hy', hf'⟩ := h1.2 j _ (List.getElem?_eq_getElem hjl)
          have : y' = c := by rw [hj] at hy'; exact (Option.some.inj hy').symm
          subst this
          exact ⟨_, List.getElem?_eq_getElem hjl, hf'⟩
        refine .fn f zs _ fv (by rw [h1.1, hl]) (fun j c hj => ?_) (fun j c hj => ?_)
        · obtain ⟨ac, e1, _⟩ := cap j c hj
          exact hcc j ac e1
        · obtain ⟨ac, e1, e2⟩ := cap j c hj
          refine ih _ _ _ e2 (hcr j ac e1) fun b hb k' hk' => hr b hb k' ?_
          simp only [reach]
          exact List.mem_flatMap.2 ⟨ac, List.mem_of_getElem? e1, hk'⟩
    | itr k q => simp [frz] at hf

end
end Go.Proofs.Ytnpdeecoejabgaa
