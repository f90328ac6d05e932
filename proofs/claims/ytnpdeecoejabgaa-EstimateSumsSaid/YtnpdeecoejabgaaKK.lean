/- THE ABSTRACT MACHINE, 11: append; slice literals; make. -/
import Derived.Test.YtnpdeecoejabgaaKJ
set_option linter.unusedSimpArgs false
set_option linter.unusedVariables false
namespace Go.Proofs.Ytnpdeecoejabgaa
open Go Go.RowKit

section
variable {P : Program} {o : Oper} {cx : Ctx} {μ : Nat → Option Nat} {σ : ASt} {a : Act} {w : World}

/-- What append does: nothing at all, a write behind the end, or a new row. -/
theorem append_run {t ty e : TypeId} {i : TypeInfo} {z : Value} (ht : P.underlying t = some (.slice e)) (hi : P.info? e = some i) (hz : i.zero = some z) (hzs : z.cells.size = i.size) (hpos : 0 < i.size)
    (T : Nat → Prop) {base : Option Addr} {n cap : Nat} {cur : Array Value}
    (hs : (n = 0 ∧ cap = 0) ∨ ∃ b, T b ∧ base = some ⟨b, 0, none⟩ ∧ w.heap[b]? = some (.cells cur e (0, 0)) ∧ cur.size = cap * i.size ∧ n ≤ cap ∧ cap ≤ 9223372036854775807)
    {xa : Option Addr} {m c : Nat} {news : List Value} (hl : news.length = m * i.size) (hx : m = 0 ∨ ∃ ad, xa = some ad ∧ ∀ (j : Nat) (v : Value), news[j]? = some v → w.cell? (ad.add j) = some v) (h1 : ∀ v ∈ news, v.oneCell' = true)
    (hb : (n + m) * i.bytes ≤ 140737488355328) (h63 : n + m ≤ 9223372036854775807) :
    ((m = 0 ∧ n = 0 ∧ cap = 0) ∧ (Builtin.append_ #[t, t] ty #[.slice base n cap, .slice xa m c]).run P w = .ok (.slice base 0 0) w) ∨
    (∃ b cur', T b ∧ base = some ⟨b, 0, none⟩ ∧ w.heap[b]? = some (.cells cur e (0, 0)) ∧ cur.size = cap * i.size ∧ n + m ≤ cap ∧ cap ≤ 9223372036854775807 ∧ (Builtin.append_ #[t, t] ty #[.slice base n cap, .slice xa m c]).run P w = .ok (.slice base (n + m) cap) (w.setRow b cur') ∧ cur'.size = cur.size ∧
      (∀ p, p < n * i.size → cur'[p]? = cur[p]?) ∧ ∀ p, p < news.length → cur'[n * i.size + p]? = news[p]?) ∨
    (∃ cells cap' w', (Builtin.append_ #[t, t] ty #[.slice base n cap, .slice xa m c]).run P w = .ok (.slice (some ⟨w.heap.size, 0, none⟩) (n + m) cap') w' ∧ w'.heap = w.heap.push (.cells cells e) ∧ w'.os = w.os ∧ w'.tape = w.tape ∧ w'.output = w.output ∧
      cells.size = cap' * i.size ∧ n + m ≤ cap' ∧ cap' ≤ 9223372036854775807 ∧ (∀ p, p < n * i.size → cells[p]? = cur[p]?) ∧ ∀ p, p < news.length → cells[n * i.size + p]? = news[p]?) := by
  have hgc : ∀ (W : World) (need old : Nat), need ≤ 9223372036854775807 → need ≤ grownCap W need old e ∧ grownCap W need old e ≤ 9223372036854775807 := fun W need old hn => by
    refine ⟨grownCap_ge W need old e, ?_⟩
    have := grownCap_le_maxLen W need old e (by simp only [maxLen]; omega)
    simp only [maxLen] at this
    omega
  have newcells : ∀ (olds : List Value) (C : Nat), olds.length = n * i.size → n + m ≤ C → (∀ p, p < n * i.size → olds[p]? = cur[p]?) →
      (olds.toArray ++ news.toArray ++ Builtin.zeroCells z.cells (C - (n + m))).size = C * i.size ∧ (∀ p, p < n * i.size → (olds.toArray ++ news.toArray ++ Builtin.zeroCells z.cells (C - (n + m)))[p]? = cur[p]?) ∧
      ∀ p, p < news.length → (olds.toArray ++ news.toArray ++ Builtin.zeroCells z.cells (C - (n + m)))[n * i.size + p]? = news[p]? := by
    intro olds C h2 h3 h4
    refine ⟨?_, fun p hp => ?_, fun p hp => ?_⟩
    · simp only [Array.size_append, List.size_toArray, h2, hl, size_zeroCells, hzs, ← Nat.add_mul]
      congr 1
      omega
    · rw [← h4 p hp, Array.getElem?_append_left (by simp; omega), Array.getElem?_append_left (by simp; omega)]
      simp
    · rw [Array.getElem?_append_left (by simp; omega), Array.getElem?_append_right (by simp; omega)]
      simp [h2]
  rcases hs with ⟨rfl, rfl⟩ | ⟨b, hT, rfl, hh, hsz, hn, hcap⟩
  · by_cases hm : m = 0
    · subst hm
      refine .inl ⟨⟨rfl, rfl, rfl⟩, ?_⟩
      have hnil : news = [] := List.eq_nil_of_length_eq_zero (by simpa using hl)
      have hf : (Builtin.firstCells i.size 0 (.slice xa 0 c)).run P w = .ok #[] w := by
        cases xa with
        | none => exact run_firstCells_none w _ _ _ _
        | some ad => exact run_firstCells_some w i.size 0 ad 0 c [] (by simp) (by simp)
      cases base with
      | none => simp [Builtin.append_, run_underlying ht, sizeOf, typeInfo, hi, Builtin.lenOf, hf]
      | some ad => simp [Builtin.append_, run_underlying ht, sizeOf, typeInfo, hi, Builtin.lenOf, hf, storeCells]
    · rcases hx with hx | ⟨ad, rfl, hx⟩
      · exact absurd hx hm
      simp only [Nat.zero_add] at hb h63 newcells ⊢
      have hg := hgc w m 0 h63
      have hfit := growslice_fits (need := m) (old := 0) (bytes := i.bytes) (by omega) hb
      obtain ⟨c1, c2, c3⟩ := newcells [] (grownCap w m 0 e) (by simp) hg.1 (fun p hp => by omega)
      cases base with
      | none =>
        have hr := run_append_nil (P := P) w t ty e i z ht hi hz ad m c news hl hx (by omega) (by omega) (by omega)
        refine .inr (.inr ⟨_, _, _, hr, rfl, rfl, rfl, rfl, ?_, hg.1, hg.2, ?_, ?_⟩)
        · simpa using c1
        · intro p hp; omega
        · simpa using c3
      | some b0 =>
        have hr := run_append_grow (P := P) w t ty e i z ht hi hz b0 0 0 [] (by simp) (by simp) ad m c news hl hx (by omega) (by omega) (by simpa using hfit)
        simp only [Nat.zero_add] at hr
        refine .inr (.inr ⟨_, _, _, hr, rfl, rfl, rfl, rfl, ?_, hg.1, hg.2, ?_, ?_⟩)
        · simpa using c1
        · intro p hp; omega
        · simpa using c3
  · by_cases hroom : n + m ≤ cap
    · have hfit : n * i.size + news.length ≤ cur.size := by rw [hl, hsz, ← Nat.add_mul]; exact Nat.mul_le_mul_right _ hroom
      refine .inr (.inl ⟨b, (cur.toList.take (n * i.size) ++ news ++ cur.toList.drop (n * i.size + news.length)).toArray, hT, rfl, hh, hsz, hroom, hcap, ?_, ?_, fun p hp => ?_, fun p hp => ?_⟩)
      · rcases hx with hx | ⟨ad, rfl, hx⟩
        · subst hx
          have hnil : news = [] := List.eq_nil_of_length_eq_zero (by simpa using hl)
          subst hnil
          have hf : (Builtin.firstCells i.size 0 (.slice xa 0 c)).run P w = .ok #[] w := by
            cases xa with
            | none => exact run_firstCells_none w _ _ _ _
            | some ad => exact run_firstCells_some w i.size 0 ad 0 c [] (by simp) (by simp)
          have hself := setRow_self w b cur e (0, 0) hh
          simp [Builtin.append_, run_underlying ht, sizeOf, typeInfo, hi, Builtin.lenOf, hf, storeCells, hn, hself]
        · exact run_append_room (P := P) w t ty e i ht hi b n cap cur hh ad m c news hl hx h1 hroom hfit
      · simp only [List.size_toArray, List.length_append, List.length_take, List.length_drop, Array.length_toList]
        omega
      · have := splice_get cur.toList news (n * i.size) news.length rfl (by simpa using hfit) p
        rw [if_neg (by omega)] at this
        simpa using this
      · have := splice_get cur.toList news (n * i.size) news.length rfl (by simpa using hfit) (n * i.size + p)
        rw [if_pos (by omega)] at this
        simpa using this
    · rcases hx with hx | ⟨ad, rfl, hx⟩
      · omega
      have hg := hgc w (n + m) cap h63
      have hns : n * i.size ≤ cur.size := by rw [hsz]; exact Nat.mul_le_mul_right _ hn
      have hold : (cur.toList.take (n * i.size)).length = n * i.size := by simp; omega
      have hr := run_append_grow (P := P) w t ty e i z ht hi hz ⟨b, 0, none⟩ n cap (cur.toList.take (n * i.size)) hold (fun j v hj => by
        rw [List.getElem?_take] at hj
        split at hj
        · rw [add_mk, cell_of_row w b _ cur e (0, 0) hh]; simpa using hj
        · cases hj) ad m c news hl hx (by omega) (by omega) (growslice_fits (by omega) hb)
      obtain ⟨c1, c2, c3⟩ := newcells (cur.toList.take (n * i.size)) (grownCap w (n + m) cap e) hold hg.1 (fun p hp => by rw [List.getElem?_take, if_pos hp]; simp)
      exact .inr (.inr ⟨_, _, _, hr, rfl, rfl, rfl, rfl, c1, hg.1, hg.2, c2, c3⟩)


theorem allLen {sz : Nat} {xs : List (List C)} (h : xs.all (fun x => decide (x.length = sz)) = true) : ∀ x ∈ xs, x.length = sz := fun x hx => by
  have := List.all_eq_true.1 h x hx
  simpa using this

theorem elems_sl {xs : List (List C)} {v : Value} (hr0 : RepC w (Xs cx.X0 σ.o μ) (.sl xs) v) {sz : Nat} (hpos : 0 < sz) (hlen : ∀ x ∈ xs, x.length = sz) :
    ∃ (xa : Option Addr) (cc : Nat) (news : List Value), v = .slice xa (xs.map dm).length cc ∧ news.length = (xs.map dm).length * sz ∧ ((xs.map dm).length = 0 ∨ ∃ ad, xa = some ad ∧ ∀ (j : Nat) (u : Value), news[j]? = some u → w.cell? (ad.add j) = some u) ∧ (∀ u ∈ news, u.oneCell' = true) ∧
      (∀ x ∈ xs.map dm, x.length = sz) ∧ ∀ (i : Nat) (x : List AC), (xs.map dm)[i]? = some x → ∀ (j : Nat) (c : AC), x[j]? = some c → ∃ u, news[i * sz + j]? = some u ∧ RCl cx μ σ w c u := by
  cases hr0 with
  | sl0 ad cap => exact ⟨ad, cap, [], rfl, by simp, .inl (by simp), by simp, by simp, by simp⟩
  | sl xs ad n cap sz' f hn hs hm hcp hsp hX hb hcc hrr =>
    subst hn
    by_cases h0 : xs.length = 0
    · have hnil : xs = [] := List.eq_nil_of_length_eq_zero h0
      subst hnil
      exact ⟨_, cap, [], rfl, by simp, .inl (by simp), by simp, by simp, by simp⟩
    have hss : sz' = sz := by
      have hm0 : xs[0] ∈ xs := List.getElem_mem _
      rw [← hs _ hm0, hlen _ hm0]
    subst hss
    have hcell : ∀ p, p < xs.length * sz' → w.cell? (ad.add p) = some (f (p / sz') (p % sz')) ∧ (f (p / sz') (p % sz')).oneCell' = true := fun p hp => by
      have h1 : p / sz' < xs.length := by rw [Nat.div_lt_iff_lt_mul hpos]; exact hp
      have h2 : p % sz' < sz' := Nat.mod_lt _ hpos
      have h3 : (xs[p / sz']).length = sz' := hs _ (List.getElem_mem _)
      have h4 := hcc (p / sz') xs[p / sz'] (by simp [h1]) (p % sz') ((xs[p / sz'])[p % sz']'(by omega)) (by simp [h3, h2])
      have h5 := hrr (p / sz') xs[p / sz'] (by simp [h1]) (p % sz') ((xs[p / sz'])[p % sz']'(by omega)) (by simp [h3, h2])
      rw [Nat.mul_comm, Nat.div_add_mod] at h4
      exact ⟨h4, h5.one⟩
    refine ⟨some ad, cap, (List.range (xs.length * sz')).map fun p => f (p / sz') (p % sz'), by simp, by simp, .inr ⟨ad, rfl, fun j u hj => ?_⟩, fun u hu => ?_, ?_, ?_⟩
    · rw [List.getElem?_map] at hj
      by_cases hlt : j < xs.length * sz'
      · simp [hlt] at hj; rw [← hj]; exact (hcell j hlt).1
      · simp [hlt] at hj
    · simp only [List.mem_map, List.mem_range] at hu
      obtain ⟨p, hp, rfl⟩ := hu
      exact (hcell p hp).2
    · intro x hx
      simp only [List.mem_map] at hx
      obtain ⟨y, hy, rfl⟩ := hx
      simpa using hlen y hy
    · intro i x hi j c hj
      rw [List.getElem?_map] at hi
      cases hxi : xs[i]? with
      | none => rw [hxi] at hi; cases hi
      | some y =>
        rw [hxi] at hi
        cases hi
        rw [List.getElem?_map] at hj
        cases hyj : y[j]? with
        | none => rw [hyj] at hj; cases hj
        | some c0 =>
          rw [hyj] at hj
          cases hj
          have hil : i < xs.length := (List.getElem?_eq_some_iff.1 hxi).1
          have hjl : j < sz' := by rw [← hlen y (List.mem_of_getElem? hxi)]; exact (List.getElem?_eq_some_iff.1 hyj).1
          have hlt : i * sz' + j < xs.length * sz' := by
            have := Nat.mul_le_mul_right sz' (show i + 1 ≤ xs.length from hil)
            rw [Nat.add_mul] at this; omega
          have e1 : (i * sz' + j) / sz' = i := by rw [Nat.mul_comm, Nat.mul_add_div hpos, Nat.div_eq_of_lt hjl, Nat.add_zero]
          have e2 : (i * sz' + j) % sz' = j := by rw [Nat.mul_comm, Nat.mul_add_mod, Nat.mod_eq_of_lt hjl]
          refine ⟨f i j, ?_, .d (hrr i y hxi j c0 hyj)⟩
          rw [List.getElem?_map]
          simp [hlt, e1, e2]

/-- A slice's elements, in memory. -/
theorem elems_raw (h : Rel cx μ σ a w) {c : AC} {v : Value} (hc : RCl cx μ σ w c v) {sz : Nat} (hpos : 0 < sz) {new : List (List AC)} (he : elemsRaw σ sz c = some new) :
    ∃ (xa : Option Addr) (cc : Nat) (news : List Value), v = .slice xa new.length cc ∧ news.length = new.length * sz ∧ (new.length = 0 ∨ ∃ ad, xa = some ad ∧ ∀ (j : Nat) (u : Value), news[j]? = some u → w.cell? (ad.add j) = some u) ∧ (∀ u ∈ news, u.oneCell' = true) ∧
      (∀ x ∈ new, x.length = sz) ∧ ∀ (i : Nat) (x : List AC), new[i]? = some x → ∀ (j : Nat) (c : AC), x[j]? = some c → ∃ u, news[i * sz + j]? = some u ∧ RCl cx μ σ w c u := by
  cases c with
  | nils =>
    simp only [elemsRaw, Option.some.injEq] at he
    subst he
    cases hc with
    | nils ad => exact ⟨ad, 0, [], rfl, by simp, .inl rfl, by simp, by simp, by simp⟩
  | d c0 =>
    cases c0 with
    | sl xs =>
      simp only [elemsRaw] at he
      split at he
      · rename_i hall
        simp only [Option.some.injEq] at he
        subst he
        cases hc with
        | d hr => exact elems_sl hr hpos (allLen hall)
      · simp at he
    | _ => simp [elemsRaw] at he
  | view k q lo n =>
    simp only [elemsRaw] at he
    split at he
    · rename_i hq
      split at he
      · rename_i l E s xs hrow
        split at he
        · rename_i hcond
          obtain ⟨rfl, hle⟩ := hcond
          simp only [Option.some.injEq] at he
          subst he
          have hnl : ((xs.drop lo).take n).length = n := by simp only [List.length_take, List.length_drop]; omega
          have ho2 := h.obj k
          unfold RelO at ho2
          rw [hrow] at ho2
          have hva := view_at hc hq hrow
          have zero : n = 0 → (∃ ad c, v = .slice ad 0 c) → ∃ (xa : Option Addr) (cc : Nat) (news : List Value), v = .slice xa ((xs.drop lo).take n).length cc ∧ news.length = ((xs.drop lo).take n).length * s ∧ (((xs.drop lo).take n).length = 0 ∨ ∃ ad, xa = some ad ∧ ∀ (j : Nat) (u : Value), news[j]? = some u → w.cell? (ad.add j) = some u) ∧ (∀ u ∈ news, u.oneCell' = true) ∧
              (∀ x ∈ (xs.drop lo).take n, x.length = s) ∧ ∀ (i : Nat) (x : List AC), ((xs.drop lo).take n)[i]? = some x → ∀ (j : Nat) (c : AC), x[j]? = some c → ∃ u, news[i * s + j]? = some u ∧ RCl cx μ σ w c u := by
            rintro rfl ⟨ad, c, hv⟩
            simp only [List.take_zero, List.length_nil]
            exact ⟨ad, c, [], hv, by simp, .inl trivial, by simp, by simp, by simp⟩
          rcases hva with ⟨_, _, hn, ad, hv⟩ | ⟨_, hn, ad, c, hv⟩ | ⟨b, cap, cur, h2, h3, h4, h5, h6⟩
          · exact zero hn ⟨ad, 0, hv⟩
          · exact zero hn ⟨ad, c, hv⟩
          · rcases ho2 with ⟨hn, _⟩ | ⟨b', cur', cap', g1, g2, g3, g4, g5, g6, g7, g8, g9⟩
            · rw [hn] at h2; cases h2
            have hbb : b' = b := by rw [g1] at h2; exact Option.some.inj h2
            subst hbb
            have hcc : cur' = cur := by rw [g2] at h3; cases h3; rfl
            subst hcc
            have hfit : (lo + n) * s ≤ cur'.size := by rw [g3]; exact Nat.mul_le_mul_right _ (by omega)
            rw [Nat.add_mul] at hfit
            refine ⟨_, cap, (cur'.toList.drop (lo * s)).take (n * s), by rw [hnl]; exact h5, by rw [hnl]; simp only [List.length_take, List.length_drop, Array.length_toList]; omega, .inr ⟨_, rfl, fun j u hj => ?_⟩, fun u hu => ?_, fun x hx => g7 x (List.mem_of_mem_drop (List.mem_of_mem_take hx)), fun i x hi j c hj => ?_⟩
            · rw [List.getElem?_take] at hj
              split at hj
              · rw [List.getElem?_drop] at hj
                rw [add_mk, cell_of_row w b' _ cur' E (0, 0) g2]
                simpa using hj
              · cases hj
            · obtain ⟨p, hp⟩ := List.getElem?_of_mem hu
              rw [List.getElem?_take] at hp
              split at hp
              · rename_i hpl
                rw [List.getElem?_drop] at hp
                have hd : (lo * s + p) / s < xs.length := by
                  rw [Nat.div_lt_iff_lt_mul hpos]
                  have := Nat.mul_le_mul_right s (show lo + n ≤ xs.length from hle)
                  rw [Nat.add_mul] at this
                  omega
                have hm : (lo * s + p) % s < s := Nat.mod_lt _ hpos
                have hxl : (xs[(lo * s + p) / s]).length = s := g7 _ (List.getElem_mem _)
                obtain ⟨y, hy1, hy2⟩ := g8 ((lo * s + p) / s) xs[(lo * s + p) / s] (by simp [hd]) ((lo * s + p) % s) ((xs[(lo * s + p) / s])[(lo * s + p) % s]'(by omega)) (by simp [hxl, hm])
                rw [Nat.mul_comm, Nat.div_add_mod] at hy1
                have : y = u := by
                  have h7 : cur'[lo * s + p]? = some u := by simpa using hp
                  rw [hy1] at h7; exact Option.some.inj h7
                subst this
                exact hy2.one
              · cases hp
            · rw [List.getElem?_take] at hi
              split at hi
              · rename_i hil
                rw [List.getElem?_drop] at hi
                obtain ⟨y, hy1, hy2⟩ := g8 (lo + i) x hi j c hj
                have hjl : j < s := by rw [← g7 x (List.mem_of_getElem? hi)]; exact (List.getElem?_eq_some_iff.1 hj).1
                refine ⟨y, ?_, hy2⟩
                have hlt : i * s + j < n * s := by
                  have := Nat.mul_le_mul_right s (show i + 1 ≤ n from hil)
                  rw [Nat.add_mul] at this; omega
                rw [List.getElem?_take, if_pos hlt, List.getElem?_drop]
                rw [Nat.add_mul, Nat.add_assoc] at hy1
                simpa using hy1
              · cases hi
        · simp at he
      · simp at he
    · simp at he
  | _ => simp [elemsRaw] at he

theorem nil_rel {c : AC} {v : Value} (hc : RCl cx μ σ w c v) : RCl cx μ σ w (nilC c) v := by
  cases c with
  | nils => cases hc with | nils ad => exact .d (.sl0 _ _)
  | _ => exact hc

theorem elems_rel (h : Rel cx μ σ a w) {c : AC} {v : Value} (hc : RCl cx μ σ w c v) {sz : Nat} (hpos : 0 < sz) {new : List (List AC)} (he : elemsOf σ sz c = some new) :
    ∃ (xa : Option Addr) (cc : Nat) (news : List Value), v = .slice xa new.length cc ∧ news.length = new.length * sz ∧ (new.length = 0 ∨ ∃ ad, xa = some ad ∧ ∀ (j : Nat) (u : Value), news[j]? = some u → w.cell? (ad.add j) = some u) ∧ (∀ u ∈ news, u.oneCell' = true) ∧
      (∀ x ∈ new, x.length = sz) ∧ ∀ (i : Nat) (x : List AC), new[i]? = some x → ∀ (j : Nat) (c : AC), x[j]? = some c → ∃ u, news[i * sz + j]? = some u ∧ RCl cx μ σ w c u := by
  obtain ⟨raw, hr, rfl⟩ := Option.map_eq_some_iff.1 he
  obtain ⟨xa, cc, news, k1, k2, k3, k4, k5, k6⟩ := elems_raw h hc hpos hr
  refine ⟨xa, cc, news, by rw [List.length_map]; exact k1, by rw [List.length_map]; exact k2, by rw [List.length_map]; exact k3, k4, fun x hx => ?_, fun i x hi j c hj => ?_⟩
  · obtain ⟨y, hy, rfl⟩ := List.mem_map.1 hx
    rw [List.length_map]; exact k5 y hy
  · rw [List.getElem?_map] at hi
    cases hy : raw[i]? with
    | none => rw [hy] at hi; cases hi
    | some y =>
      rw [hy] at hi; cases hi
      rw [List.getElem?_map] at hj
      cases hz : y[j]? with
      | none => rw [hz] at hj; cases hj
      | some z =>
        rw [hz] at hj; cases hj
        obtain ⟨u, h1, h2⟩ := k6 i y hy j z hz
        exact ⟨u, h1, nil_rel h2⟩

end
end Go.Proofs.Ytnpdeecoejabgaa
