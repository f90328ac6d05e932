/- THE ABSTRACT MACHINE, 7: cuts, values built of parts, comparisons of structs. -/
import Derived.Test.YtnpdeecoejabgaaKF
set_option linter.unusedSimpArgs false
set_option linter.unusedVariables false
namespace Go.Proofs.Ytnpdeecoejabgaa
open Go Go.RowKit

section
variable {P : Program} {o : Oper} {cx : Ctx} {μ : Nat → Option Nat} {σ : ASt} {a : Act} {w : World}

theorem optX_none {x : Option Operand} (h : optX x = some none) : x = none := by cases x with
  | none => rfl
  | some x => simp [optX] at h
theorem optX_some {x : Option Operand} {ax : AX} (h : optX x = some (some ax)) : ∃ y, x = some y ∧ toX y = some ax := by cases x with
  | none => simp [optX] at h
  | some x => simp only [optX, Option.map_eq_some_iff] at h; obtain ⟨y, h1, h2⟩ := h; cases h2; exact ⟨x, rfl, h1⟩

/-- A bound that was read. -/
theorem optI_spec (h : Rel cx μ σ a w) {x : Option Operand} {ax : Option AX} (hx : optX x = some ax) {v : Option Int} (hv : optI σ ax = some v) :
    (x = none ∧ v = none) ∨ ∃ y k n, x = some y ∧ a.eval y = .int k n ∧ v = some n := by
  cases ax with
  | none => simp only [optI, Option.some.injEq] at hv; exact .inl ⟨optX_none hx, hv.symm⟩
  | some ax =>
    obtain ⟨y, rfl, h1⟩ := optX_some hx
    simp only [optI, Option.map_eq_some_iff] at hv
    obtain ⟨n, h2, rfl⟩ := hv
    obtain ⟨k, h3⟩ := ev_asI h h1 h2
    exact .inr ⟨y, k, n, rfl, h3, rfl⟩

/-- The bounds of a cut, where they fit. -/
theorem bounds_run (h : Rel cx μ σ a w) {lo hi : Option Operand} {alo ahi : Option AX} (hlo : optX lo = some alo) (hhi : optX hi = some ahi) {l hh : Option Int} (hl : optI σ alo = some l) (hh' : optI σ ahi = some hh)
    {isSlice : Bool} {n cap c : Nat} (hc : n ≤ c) (hc2 : cap ≤ c) (hnc : n ≤ cap) {p : Nat × Nat} (hp : bounds n cap l hh = some p) :
    (Instr.sliceBounds isSlice n c (lo.map a.eval) (hi.map a.eval) none).run P w = .ok (p.1, p.2, c) w ∧ p.1 ≤ p.2 ∧ p.2 ≤ cap := by
  unfold bounds at hp
  rcases optI_spec h hhi hh' with ⟨rfl, rfl⟩ | ⟨y, k, m, rfl, he, rfl⟩
  · simp only at hp
    rcases optI_spec h hlo hl with ⟨rfl, rfl⟩ | ⟨y', k', m', rfl, he', rfl⟩
    · simp only [Option.some.injEq] at hp
      subst hp
      simp [Instr.sliceBounds]
      omega
    · simp only [Option.map_eq_some_iff] at hp
      obtain ⟨q, h1, rfl⟩ := hp
      obtain ⟨h2, h3, rfl, h4⟩ := idx_some h1
      have h5 : m' ≤ (n : Int) := by omega
      refine ⟨?_, by dsimp only; omega, by dsimp only; omega⟩
      simp [Instr.sliceBounds, he', run_sliceBound _ _ _ _ _ h2 h5]
  · simp only at hp
    cases hq : idx m (cap + 1) with
    | none => rw [hq] at hp; simp at hp
    | some q =>
      rw [hq] at hp
      obtain ⟨h2, h3, rfl, h4⟩ := idx_some hq
      have h5 : m ≤ (c : Int) := by omega
      rcases optI_spec h hlo hl with ⟨rfl, rfl⟩ | ⟨y', k', m', rfl, he', rfl⟩
      · simp only [Option.some.injEq] at hp
        subst hp
        refine ⟨?_, by dsimp only; omega, by dsimp only; omega⟩
        simp [Instr.sliceBounds, he, run_sliceBound _ _ _ _ _ h2 h5]
      · simp only [Option.map_eq_some_iff] at hp
        obtain ⟨q', h1, rfl⟩ := hp
        obtain ⟨h6, h7, rfl, h8⟩ := idx_some h1
        have h9 : m' ≤ (m.toNat : Int) := by omega
        refine ⟨?_, by dsimp only; omega, by dsimp only; omega⟩
        simp [Instr.sliceBounds, he, he', run_sliceBound _ _ _ _ _ h2 h5, run_sliceBound _ _ _ _ _ h6 h9]

theorem go_slt (h : Rel cx μ σ a w) (hd : ∀ d, o.dst = some d → d < cx.n) {x : Operand} {ax : AX} {lo hi : Option Operand} {alo ahi : Option AX} {t : TypeId} (ho : o.op = .slice t x lo hi none) (hx : toX x = some ax) (hlo : optX lo = some alo) (hhi : optX hi = some ahi)
    (ht : P.underlying t = some .string) {s : ByteArray} (hs : σ.ev ax = .one (.d (.str s))) {l hh : Option Int} (hl : optI σ alo = some l) (hh' : optI σ ahi = some hh) {p : Nat × Nat} (hp : bounds s.size s.size l hh = some p) :
    Goes P o cx σ a w (.one (.d (.str (s.extract p.1 p.2))), []) := by
  have h1 := ev_str h hx hs
  have h2 := (bounds_run (P := P) h hlo hhi hl hh' (isSlice := false) (Nat.le_refl _) (Nat.le_refl _) (Nat.le_refl _) hp).1
  refine goes_val h hd ?_ rstr
  simp [execOp, ho, Instr.sliceAt, Instr.slice, run_underlying ht, h1, h2]

/-- A slice of pure data, cut. -/
theorem rc_sl_cut {X : Nat → Prop} {xs : List (List C)} {v : Value} (h : RepC w X (.sl xs) v) {p q sz : Nat} (hpq : p ≤ q) (hq : q ≤ xs.length) (hsz : ∀ x ∈ xs, x.length = sz) :
    ∃ ad cap, v = .slice ad xs.length cap ∧ xs.length ≤ cap ∧ RepC w X (.sl ((xs.drop p).take (q - p))) (.slice (if cap = p then ad else ad.map (·.add (p * sz))) (q - p) (cap - p)) := by
  cases h with
  | sl0 a cap =>
    simp only [List.length_nil, Nat.le_zero] at hq
    subst hq
    refine ⟨a, cap, rfl, Nat.zero_le _, ?_⟩
    simp only [List.drop_nil, List.take_nil, Nat.zero_sub]
    exact .sl0 _ _
  | sl xs ad n cap sz' f hn hs hm hcp hsp hX hb hc hr =>
    subst hn
    refine ⟨some ad, cap, rfl, hcp, ?_⟩
    by_cases hz : q - p = 0
    · rw [hz, List.take_zero]; exact .sl0 _ _
    · have hne : ¬ cap = p := by omega
      have hlen : ((xs.drop p).take (q - p)).length = q - p := by simp only [List.length_take, List.length_drop]; omega
      have hx0 : 0 < xs.length := by omega
      have hss : sz' = sz := by
        have hm0 : xs[0] ∈ xs := List.getElem_mem _
        rw [← hs _ hm0, hsz _ hm0]
      subst hss
      rw [if_neg hne]
      refine .sl _ _ _ _ sz' (fun i j => f (p + i) j) hlen (fun x hx => hs x (List.mem_of_mem_drop (List.mem_of_mem_take hx))) (by omega) (by omega) (add_spot ad hsp _) (by rw [add_block]; exact hX) (by rw [add_block]; exact hb) ?_ ?_
      · intro i x hi j c hj
        rw [add_add _ hsp]
        have hi' : xs[p + i]? = some x := by
          rw [List.getElem?_take] at hi
          split at hi
          · rw [List.getElem?_drop] at hi; exact hi
          · cases hi
        have := hc _ _ hi' _ _ hj
        rw [Nat.add_mul, Nat.add_assoc] at this
        exact this
      · intro i x hi j c hj
        have hi' : xs[p + i]? = some x := by
          rw [List.getElem?_take] at hi
          split at hi
          · rw [List.getElem?_drop] at hi; exact hi
          · cases hi
        exact hr _ _ hi' _ _ hj

theorem go_slc (h : Rel cx μ σ a w) (hd : ∀ d, o.dst = some d → d < cx.n) {x : Operand} {ax : AX} {lo hi : Option Operand} {alo ahi : Option AX} {t e : TypeId} {j : TypeInfo} (ho : o.op = .slice t x lo hi none) (hx : toX x = some ax) (hlo : optX lo = some alo) (hhi : optX hi = some ahi)
    (ht : P.underlying t = some (.slice e)) (hj : P.info? e = some j) {l hh : Option Int} (hl : optI σ alo = some l) (hh' : optI σ ahi = some hh)
    {v : AV} (hv : (∃ xs p, σ.ev ax = .one (.d (.sl xs)) ∧ (∀ x ∈ xs, x.length = j.size) ∧ bounds xs.length xs.length l hh = some p ∧ v = .one (.d (.sl ((xs.drop p.1).take (p.2 - p.1))))) ∨
      (∃ k q m n f E xs p, σ.ev ax = .one (.view k q m n) ∧ q = σ.g k ∧ σ.o k = .row f E j.size xs ∧ bounds n n l hh = some p ∧ v = .one (.view k q (m + p.1) (p.2 - p.1))) ∨
      (∃ p, σ.ev ax = .one .nils ∧ bounds 0 0 l hh = some p ∧ v = .one .nils)) : Goes P o cx σ a w (v, []) := by
  have h1 := ev_toX h hx
  have run : ∀ (ad : Option Addr) (n c : Nat) (p : Nat × Nat), a.eval x = .slice ad n c → (Instr.sliceBounds true n c (lo.map a.eval) (hi.map a.eval) none).run P w = .ok (p.1, p.2, c) w →
      (execOp a.eval o).run P w = .ok (.value (.slice (if c = p.1 then ad else ad.map (·.add (p.1 * j.size))) (p.2 - p.1) (c - p.1))) w := fun ad n c p he hb => by
    simp [execOp, ho, Instr.sliceAt, Instr.slice, run_underlying ht, he, hb, sizeOf, typeInfo, hj]
  rcases hv with ⟨xs, p, he, hsz, hp, rfl⟩ | ⟨k, q, m, n, f, E, xs, p, he, hq, hrow, hp, rfl⟩ | ⟨p, he, hp, rfl⟩
  · rw [he] at h1
    cases rv_one h1 with
    | d h2 =>
      obtain ⟨ad0, c0, h3⟩ := rc_sl (rv_one h1)
      have h4 := (rc_sl_cut h2 (Nat.zero_le _) (Nat.le_refl _) hsz)
      obtain ⟨ad1, c1, h5, h6, _⟩ := h4
      have hb := bounds_run (P := P) h hlo hhi hl hh' (isSlice := true) (n := xs.length) (cap := xs.length) (c := c1) h6 h6 (Nat.le_refl _) hp
      obtain ⟨ad, cap, h7, h8, h9⟩ := rc_sl_cut h2 hb.2.1 hb.2.2 hsz
      have : ad1 = ad ∧ c1 = cap := by rw [h5] at h7; cases h7; exact ⟨rfl, rfl⟩
      obtain ⟨rfl, rfl⟩ := this
      exact goes_val h hd (run _ _ _ p h7 hb.1) (.one _ _ (.d h9) rfl)
  · rw [he] at h1
    have hg : q ≤ σ.g k := by cases rv_one h1 with | view hg _ _ => exact hg
    rcases view_at (rv_one h1) hq hrow with ⟨h2, rfl, rfl, ad, h3⟩ | ⟨h2, rfl, ad, c, h3⟩ | ⟨b, cap, cur, h2, h3, h4, h5, h6⟩
    · have hb := bounds_run (P := P) h hlo hhi hl hh' (isSlice := true) (n := 0) (cap := 0) (c := 0) (Nat.le_refl _) (Nat.le_refl _) (Nat.le_refl _) hp
      have hp1 : p.1 = 0 := by omega
      have hp2 : p.2 = 0 := by omega
      refine goes_val h hd (run _ _ _ p h3 hb.1) (.one _ _ (.view hg ⟨_, _, rfl⟩ fun _ => ?_) rfl)
      unfold ViewAt
      rw [hrow]
      exact .inl ⟨h2, by rw [hp1], by rw [hp1, hp2], _, by rw [hp1, hp2]⟩
    · have hb := bounds_run (P := P) h hlo hhi hl hh' (isSlice := true) (n := 0) (cap := 0) (c := c) (Nat.zero_le _) (Nat.zero_le _) (Nat.le_refl _) hp
      have hp1 : p.1 = 0 := by omega
      have hp2 : p.2 = 0 := by omega
      refine goes_val h hd (run _ _ _ p h3 hb.1) (.one _ _ (.view hg ⟨_, _, rfl⟩ fun _ => ?_) rfl)
      unfold ViewAt
      rw [hrow]
      exact .inr (.inl ⟨by omega, by omega, _, _, by rw [hp1, hp2]⟩)
    · have hb := bounds_run (P := P) h hlo hhi hl hh' (isSlice := true) (n := n) (cap := n) (c := cap) h6 h6 (Nat.le_refl _) hp
      refine goes_val h hd (run _ _ _ p h5 hb.1) (.one _ _ (.view hg ⟨_, _, rfl⟩ fun _ => ?_) rfl)
      unfold ViewAt
      rw [hrow]
      by_cases hc : cap = p.1
      · by_cases hp1 : p.1 = 0
        · refine .inr (.inr ⟨b, 0, cur, h2, h3, by rw [h4, hc, hp1], ?_, by omega⟩)
          rw [if_pos hc, hc, hp1]; simp
        · exact .inr (.inl ⟨by omega, by omega, _, _, by rw [show p.2 - p.1 = 0 by omega]⟩)
      · refine .inr (.inr ⟨b, cap - p.1, cur, h2, h3, by rw [h4]; congr 1; omega, ?_, by omega⟩)
        rw [if_neg hc]
        simp only [Option.map_some, add_mk, Nat.add_mul]
  · rw [he] at h1
    have h2 : ∃ ad, a.eval x = .slice ad 0 0 := by generalize a.eval x = u at h1; cases rv_one h1; exact ⟨_, rfl⟩
    obtain ⟨ad, h3⟩ := h2
    have hb := bounds_run (P := P) h hlo hhi hl hh' (isSlice := true) (n := 0) (cap := 0) (c := 0) (Nat.le_refl _) (Nat.le_refl _) (Nat.le_refl _) hp
    have hp1 : p.1 = 0 := by omega
    have hp2 : p.2 = 0 := by omega
    have h4 := run _ _ _ p h3 hb.1
    rw [hp1, hp2] at h4
    exact goes_val h hd h4 (.one _ _ (.nils _) rfl)

/-- 's[:0:0]': a slice of no elements and no room. -/
theorem go_slc0 (h : Rel cx μ σ a w) (hd : ∀ d, o.dst = some d → d < cx.n) {x : Operand} {ax : AX} {lo hi mx : Option Operand} {alo ahi : Option AX} {t e : TypeId} {j : TypeInfo} (ho : o.op = .slice t x lo hi mx) (hx : toX x = some ax)
    (hlo : optX lo = some alo) (hhi : optX hi = some ahi) {amx' : AX} (hmx : optX mx = some (some amx')) (ht : P.underlying t = some (.slice e)) (hj : P.info? e = some j) {l : Option Int} (hl : optI σ alo = some l) (hl0 : l = none ∨ l = some 0) (hh' : optI σ ahi = some (some 0)) (hm' : asI (σ.ev amx') = some 0)
    (hv : (∃ xs, σ.ev ax = .one (.d (.sl xs))) ∨ (∃ k q m n, σ.ev ax = .one (.view k q m n)) ∨ σ.ev ax = .one .nils) : Goes P o cx σ a w (.one .nils, []) := by
  have h1 := ev_toX h hx
  have h2 : ∃ ad n c, a.eval x = .slice ad n c := by
    rcases hv with ⟨xs, he⟩ | ⟨k, q, m, n, he⟩ | he
    · rw [he] at h1; obtain ⟨ad, c, h2⟩ := rc_sl (rv_one h1); exact ⟨_, _, _, h2⟩
    · rw [he] at h1; cases rv_one h1 with | view _ h2 _ => obtain ⟨ad, c, h2⟩ := h2; exact ⟨_, _, _, h2⟩
    · rw [he] at h1; generalize a.eval x = u at h1; cases rv_one h1; exact ⟨_, _, _, rfl⟩
  obtain ⟨ad, n, c, h3⟩ := h2
  obtain ⟨ym, rfl, hym⟩ := optX_some hmx
  obtain ⟨km, h4⟩ := ev_asI h hym hm'
  rcases optI_spec h hhi hh' with ⟨_, hn⟩ | ⟨yh, kh, m, rfl, he, hm⟩
  · cases hn
  · cases hm
    have hs := run_sliceBound (P := P) w
    rcases optI_spec h hlo hl with ⟨rfl, rfl⟩ | ⟨yl, kl, m, rfl, he', hm⟩
    · refine goes_val h hd (u := .slice (if 0 = 0 then ad else ad.map (·.add (0 * j.size))) 0 0) ?_ (.one _ _ (.nils _) rfl)
      simp [execOp, ho, Instr.sliceAt, Instr.slice, Instr.sliceBounds, run_underlying ht, h3, h4, he, run_sliceBound, sizeOf, typeInfo, hj]
    · subst hm
      rcases hl0 with hl0 | hl0
      · cases hl0
      · cases hl0
        refine goes_val h hd (u := .slice (if 0 = 0 then ad else ad.map (·.add (0 * j.size))) 0 0) ?_ (.one _ _ (.nils _) rfl)
        simp [execOp, ho, Instr.sliceAt, Instr.slice, Instr.sliceBounds, run_underlying ht, h3, h4, he, he', run_sliceBound, sizeOf, typeInfo, hj]

end
end Go.Proofs.Ytnpdeecoejabgaa
