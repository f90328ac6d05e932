/- THE ABSTRACT MACHINE, 28: operations on typed data. -/
import Derived.Test.YtnpdeecoejabgaaGB
set_option linter.unusedSimpArgs false
set_option linter.unusedVariables false
set_option linter.unusedSectionVars false
namespace Go.Proofs.Ytnpdeecoejabgaa
open Go Go.RowKit

abbrev w64 (n : Int) : Int := IntKind.i64.wrap n

section
variable {σ : ASt} {d : Nat} {α : Type} {enc : α → List C}

theorem detA_none {op : AOp} {e : Option Eff} (h : det σ d op = e) : detA none σ d op = e := h

theorem d_iad_sl {a i : AX} {sz : Nat} {k : IntKind} {j : Int} (xs : List α) (x : α) (hx : σ.ev a = .one (.d (.sl (xs.map enc)))) (hi : σ.ev i = .one (.d (.int k j))) (h0 : 0 ≤ j) (h1 : xs[j.toNat]? = some x) (hl : (enc x).length = sz) :
    det σ d (.iad sz a i) = some (.one (.d (.ptr (enc x))), []) := by
  have hlt : j.toNat < xs.length := (List.getElem?_eq_some_iff.1 h1).1
  have : idx j (xs.map enc).length = some j.toNat := by
    unfold idx
    rw [if_pos ⟨h0, by rw [List.length_map]; omega⟩]
  simp only [det, hx, hi, asI, this, List.getElem?_map, h1, Option.map_some, hl, if_true]

theorem d_iad_v {a i : AX} {sz o g E : Nat} {k : IntKind} {j : Int} {l : Bool} {ys : List (List AC)} (xs : List α) (x : α) (hx : σ.ev a = .one (.view o g 0 (xs.map enc).length)) (hg : σ.g o = g) (ho : σ.o o = .row l E sz ys) (hi : σ.ev i = .one (.d (.int k j))) (h0 : 0 ≤ j) (h1 : xs[j.toNat]? = some x) :
    det σ d (.iad sz a i) = some (.one (.ref o g j.toNat 0), []) := by
  have hlt : j.toNat < xs.length := (List.getElem?_eq_some_iff.1 h1).1
  have : idx j (xs.map enc).length = some j.toNat := by
    unfold idx
    rw [if_pos ⟨h0, by rw [List.length_map]; omega⟩]
  simp only [det, hx, hi, asI, hg, ho, this, if_true, Option.map_some, Nat.zero_add]

theorem set_get {xs : List α} {i : Nat} {x : α} (x' : α) (h : xs[i]? = some x) : (xs.set i x')[i]? = some x' := by
  have := (List.getElem?_eq_some_iff.1 h).1
  simp [this]

theorem d_ld_row {a : AX} {agg : Bool} {n o g i off E sz : Nat} {l : Bool} {v : AV} (xs : List α) (x : α) (ha : σ.ev a = .one (.ref o g i off)) (hg : σ.g o = g) (ho : σ.o o = .row l E sz (dmm (xs.map enc))) (he : xs[i]? = some x) (hv : ldVal agg n ((dm (enc x)).drop off) = some v) :
    det σ d (.ld agg n a) = some (v, []) := by
  simp only [det, ha, hg, ho, if_true, List.getElem?_map, he, Option.map_some, hv]

theorem d_st_row {a x : AX} {n o g i off E sz : Nat} {vs : List AC} (xs : List α) (y y' : α) (ha : σ.ev a = .one (.ref o g i off)) (hg : σ.g o = g) (ho : σ.o o = .row true E sz (dmm (xs.map enc))) (he : xs[i]? = some y) (hx : cellsOf (σ.ev x) = some vs)
    (hl : (decide (vs.length = n) && decide (off + n ≤ (dm (enc y)).length)) = true) (hn : (dm (enc y)).take off ++ vs ++ (dm (enc y)).drop (off + n) = dm (enc y')) :
    det σ d (.st n a x) = some (.tup [], [(o, g, .row true E sz (dmm ((xs.set i y').map enc)))]) := by
  simp only [Bool.and_eq_true, decide_eq_true_eq] at hl
  simp only [det, ha, hg, ho, if_true, hx, List.getElem?_map, he, Option.map_some, hl, hn, and_self]
  simp [List.map_set]

theorem nil_dm : ∀ (cs : List C), (dm cs).map nilC = dm cs
  | [] => rfl
  | c :: cs => by
    have := nil_dm cs
    simp only [dm, List.map_cons, nilC] at this ⊢
    rw [this]
theorem nil_dmm (ys : List (List C)) : (dmm ys).map (fun x => x.map nilC) = dmm ys := by
  induction ys with
  | nil => rfl
  | cons y ys ih =>
    simp only [dmm, List.map_cons] at ih ⊢
    rw [ih, nil_dm]

theorem e_sl {sz : Nat} (xs : List α) (hl : ∀ x, (enc x).length = sz) : elemsOf σ sz (.d (.sl (xs.map enc))) = some (dmm (xs.map enc)) := by
  have : (xs.map enc).all (fun x => decide (x.length = sz)) = true := by simp [hl]
  have h : elemsRaw σ sz (.d (.sl (xs.map enc))) = some (dmm (xs.map enc)) := by simp only [elemsRaw, this, if_true]
  simp only [elemsOf, h, Option.map_some, nil_dmm]

theorem e_view {sz o g E n : Nat} {l : Bool} (xs : List α) (hg : σ.g o = g) (ho : σ.o o = .row l E sz (dmm (xs.map enc))) (hn : n = (xs.map enc).length) : elemsOf σ sz (.view o g 0 n) = some (dmm (xs.map enc)) := by
  rw [List.length_map] at hn; subst hn
  have : (dmm (xs.map enc)).take xs.length = dmm (xs.map enc) := by rw [List.take_of_length_le]; simp
  have h : elemsRaw σ sz (.view o g 0 xs.length) = some (dmm (xs.map enc)) := by
    simp only [elemsRaw, hg, ho, if_true, List.drop_zero, this]
    rw [if_pos ⟨trivial, by simp⟩]
  simp only [elemsOf, h, Option.map_some, nil_dmm]

/-- A part of a row. -/
theorem e_part {sz o g E lo n : Nat} {l : Bool} (xs : List α) (hg : σ.g o = g) (ho : σ.o o = .row l E sz (dmm (xs.map enc))) (hn : lo + n ≤ xs.length) : elemsOf σ sz (.view o g lo n) = some (dmm (((xs.drop lo).take n).map enc)) := by
  have h : elemsRaw σ sz (.view o g lo n) = some (dmm (((xs.drop lo).take n).map enc)) := by
    have h1 : (dmm (xs.map enc)).length = xs.length := by simp
    simp only [elemsRaw, hg, ho, if_true, h1]
    rw [if_pos ⟨trivial, hn⟩]
    simp [List.map_take, List.map_drop]
  simp only [elemsOf, h, Option.map_some, nil_dmm]

theorem d_app_nil {E sz bytes : Nat} {z : List K} {s x : AX} {xc : AC} (ys : List α) (hs : σ.ev s = .one .nils) (hx : σ.ev x = .one xc) (he : elemsOf σ sz xc = some (dmm (ys.map enc))) (hb : ys.length * bytes ≤ 140737488355328) (hp : decide (0 < bytes) = true) :
    det σ d (.app E sz bytes z s x) = some (.one (.view d (σ.g d + 1) 0 (ys.map enc).length), [(d, σ.g d + 1, .row true E sz (dmm (ys.map enc)))]) := by
  have hp := of_decide_eq_true hp
  have h1 : ys.length ≤ 9223372036854775807 := Nat.le_trans (Nat.le_mul_of_pos_right _ hp) (by omega)
  have h2 : (dmm (ys.map enc)).length = ys.length := by simp
  simp only [det, hx, he, hs, h2]
  rw [if_pos ⟨hb, h1⟩, List.length_map]

theorem d_app_v {E sz bytes o g : Nat} {z : List K} {s x : AX} {xc : AC} (xs ys : List α) (hs : σ.ev s = .one (.view o g 0 (xs.map enc).length)) (hg : σ.g o = g) (ho : σ.o o = .row true E sz (dmm (xs.map enc))) (hx : σ.ev x = .one xc) (he : elemsOf σ sz xc = some (dmm (ys.map enc)))
    (hb : (xs ++ ys).length * bytes ≤ 140737488355328) (hp : decide (0 < bytes) = true) :
    det σ d (.app E sz bytes z s x) = some (.one (.view o (g + 1) 0 ((xs ++ ys).map enc).length), [(o, g + 1, .row true E sz (dmm ((xs ++ ys).map enc)))]) := by
  have hp := of_decide_eq_true hp
  rw [List.length_append] at hb
  have h1 : xs.length + ys.length ≤ 9223372036854775807 := Nat.le_trans (Nat.le_mul_of_pos_right _ hp) (by omega)
  have h2 : (dmm (ys.map enc)).length = ys.length := by simp
  have h3 : (dmm (xs.map enc)).length = xs.length := by simp
  simp only [det, hx, he, hs, hg, ho, if_true, h2, h3, List.length_map]
  rw [if_pos ⟨trivial, trivial, Nat.le_refl _, hb, h1⟩]
  have h4 : (dmm (xs.map enc)).take xs.length = dmm (xs.map enc) := by rw [← h3, List.take_length]
  rw [h4]
  simp

theorem b_hi {n : Nat} {h : Int} (h0 : 0 ≤ h) (h1 : h ≤ n) : bounds n n none (some h) = some (0, h.toNat) := by
  simp only [bounds, idx]; rw [if_pos ⟨h0, by omega⟩]
theorem b_lo {n : Nat} {l : Int} (h0 : 0 ≤ l) (h1 : l ≤ n) : bounds n n (some l) none = some (l.toNat, n) := by
  simp only [bounds, idx]; rw [if_pos ⟨h0, by omega⟩]; rfl
theorem b_lohi {n : Nat} {l h : Int} (h0 : 0 ≤ l) (h1 : l ≤ h) (h2 : h ≤ n) : bounds n n (some l) (some h) = some (l.toNat, h.toNat) := by
  simp only [bounds, idx]; rw [if_pos ⟨by omega, by omega⟩]; dsimp only; rw [if_pos ⟨h0, by omega⟩]; rfl

theorem d_slc_v {sz o g n E : Nat} {l : Bool} {x : AX} {lo hi : Option AX} {lo' hi' : Option Int} {p q : Nat} {ys : List (List AC)} (h1 : optI σ lo = some lo') (h2 : optI σ hi = some hi') (hx : σ.ev x = .one (.view o g 0 n)) (hg : σ.g o = g) (ho : σ.o o = .row l E sz ys) (hb : bounds n n lo' hi' = some (p, q)) :
    det σ d (.slc sz x lo hi none) = some (.one (.view o g p (q - p)), []) := by
  simp only [det, h1, h2, hx, hg, ho, if_true, hb, Option.map_some, Nat.zero_add]
theorem d_slc_vf {sz o g E : Nat} {l : Bool} {x : AX} {lo hi : Option AX} {lo' hi' : Option Int} {p q : Nat} {ys : List (List AC)} (xs : List α) (h1 : optI σ lo = some lo') (h2 : optI σ hi = some hi') (hx : σ.ev x = .one (.view o g 0 (xs.map enc).length)) (hg : σ.g o = g) (ho : σ.o o = .row l E sz ys) (hb : bounds xs.length xs.length lo' hi' = some (p, q)) :
    det σ d (.slc sz x lo hi none) = some (.one (.view o g p (q - p)), []) := by
  simp only [det, h1, h2, hx, hg, ho, if_true, List.length_map, hb, Option.map_some, Nat.zero_add]
theorem d_slc_sl {sz : Nat} {x : AX} {lo hi : Option AX} {lo' hi' : Option Int} {p q : Nat} (xs : List α) (h1 : optI σ lo = some lo') (h2 : optI σ hi = some hi') (hx : σ.ev x = .one (.d (.sl (xs.map enc)))) (hl : ∀ x, (enc x).length = sz) (hb : bounds xs.length xs.length lo' hi' = some (p, q)) :
    det σ d (.slc sz x lo hi none) = some (.one (.d (.sl (((xs.drop p).take (q - p)).map enc))), []) := by
  have : (xs.map enc).all (fun x => decide (x.length = sz)) = true := by simp [hl]
  simp only [det, h1, h2, hx, this, List.length_map, hb, Option.map_some, List.map_take, List.map_drop]
  simp

theorem d_slc_nils {sz : Nat} {x : AX} {lo hi : Option AX} {lo' hi' : Option Int} {p q : Nat} (h1 : optI σ lo = some lo') (h2 : optI σ hi = some hi') (hx : σ.ev x = .one .nils) (hb : bounds ([] : List Int).length ([] : List Int).length lo' hi' = some (p, q)) :
    det σ d (.slc sz x lo hi none) = some (.one .nils, []) := by
  have hb : bounds 0 0 lo' hi' = some (p, q) := hb
  simp only [det, h1, h2, hx, hb, Option.map_some]
theorem d_ixs {x i : AX} {k : IntKind} {j : Int} (s : ByteArray) (b : UInt8) (hx : σ.ev x = .one (.d (.str s))) (hi : σ.ev i = .one (.d (.int k j))) (h0 : 0 ≤ j) (h1 : s[j.toNat]? = some b) : det σ d (.ixs x i) = some (.one (.d (.int .u8 b.toNat)), []) := by
  have hlt : j.toNat < s.size := by
    by_cases h : j.toNat < s.size
    · exact h
    · rw [getElem?_neg s j.toNat h] at h1; cases h1
  have : idx j s.size = some j.toNat := by
    unfold idx
    rw [if_pos ⟨h0, by omega⟩]
  simp only [det, hx, hi, asI, this, h1, Option.map_some]
theorem d_slt {x : AX} {lo hi : Option AX} {lo' hi' : Option Int} {p q : Nat} (s : ByteArray) (h1 : optI σ lo = some lo') (h2 : optI σ hi = some hi') (hx : σ.ev x = .one (.d (.str s))) (hb : bounds s.size s.size lo' hi' = some (p, q)) :
    det σ d (.slt x lo hi) = some (.one (.d (.str (s.extract p q))), []) := by
  simp only [det, h1, h2, hx, hb, Option.map_some]
theorem d_lens_sl {x : AX} (xs : List α) (hx : σ.ev x = .one (.d (.sl (xs.map enc)))) : det σ d (.lens x) = some (.one (.d (.int .i64 xs.length)), []) := by
  simp [det, hx]

theorem d_lens_v {x : AX} {o g : Nat} (xs : List α) (hx : σ.ev x = .one (.view o g 0 (xs.map enc).length)) : det σ d (.lens x) = some (.one (.d (.int .i64 xs.length)), []) := by
  simp [det, hx]
theorem d_rem {x y : AX} {k : IntKind} (a b : Int) (hx : σ.ev x = .one (.d (.int k a))) (hy : σ.ev y = .one (.d (.int k b))) (hb : b ≠ 0) : det σ d (.bin .rem x y) = some (.one (.d (.int k (a.tmod b))), []) := by
  simp [det, hx, hy, binOp, binInt, hb]
theorem d_quo {x y : AX} {k : IntKind} (a b : Int) (hx : σ.ev x = .one (.d (.int k a))) (hy : σ.ev y = .one (.d (.int k b))) (hb : b ≠ 0) : det σ d (.bin .quo x y) = some (.one (.d (.int k (k.wrap (a.tdiv b)))), []) := by
  simp [det, hx, hy, binOp, binInt, hb]
theorem d_shl {x y : AX} {k k' : IntKind} (a b : Int) (hx : σ.ev x = .one (.d (.int k a))) (hy : σ.ev y = .one (.d (.int k' b))) (hb : 0 ≤ b) : det σ d (.bin .shl x y) = some (.one (.d (.int k (k.wrap (a * 2 ^ (min b.toNat k.bits))))), []) := by
  simp only [det, hx, hy, binOp, shiftOp]; rw [if_neg (by omega)]; rfl
theorem d_shr {x y : AX} {k k' : IntKind} (a b : Int) (hx : σ.ev x = .one (.d (.int k a))) (hy : σ.ev y = .one (.d (.int k' b))) (hb : 0 ≤ b) : det σ d (.bin .shr x y) = some (.one (.d (.int k (a.fdiv (2 ^ (min b.toNat k.bits))))), []) := by
  simp only [det, hx, hy, binOp, shiftOp]; rw [if_neg (by omega)]; rfl

/-- Handing over views. -/
theorem pv_one {c : AC} {x : C} {R : List Nat} (h : frz σ 8 c = some x ∧ reach σ 8 c = R) : passPlain σ (.one c) = some (.one (.d x)) ∧ reachV σ (.one c) = R := by
  simp [passPlain, reachV, h]
theorem pv_agg {cs : List AC} {xs : List C} {R : List Nat} (h : allSome (cs.map (frz σ 8)) = some xs ∧ cs.flatMap (reach σ 8) = R) : passPlain σ (.agg cs) = some (.agg (xs.map .d)) ∧ reachV σ (.agg cs) = R := by
  simp [passPlain, reachV, h]
theorem pc_nil {m : Nat} : allSome ([].map (frz σ m)) = some [] ∧ ([] : List AC).flatMap (reach σ m) = [] := ⟨rfl, rfl⟩
theorem pc_cons {c : AC} {cs : List AC} {x : C} {xs : List C} {R R' : List Nat} {m : Nat} (h : frz σ m c = some x ∧ reach σ m c = R) (t : allSome (cs.map (frz σ m)) = some xs ∧ cs.flatMap (reach σ m) = R') :
    allSome ((c :: cs).map (frz σ m)) = some (x :: xs) ∧ (c :: cs).flatMap (reach σ m) = R ++ R' := by
  simp [allSome, h, t]
theorem pk {c : AC} {m : Nat} (x : C) (R : List Nat) (h1 : frz σ m c = some x) (h2 : reach σ m c = R) : frz σ m c = some x ∧ reach σ m c = R := ⟨h1, h2⟩
theorem pf_d {c : C} {m : Nat} : frz σ (m + 1) (.d c) = some c ∧ reach σ (m + 1) (.d c) = [] := ⟨rfl, rfl⟩
theorem pf_nils {m : Nat} : frz σ (m + 1) .nils = some (.sl []) ∧ reach σ (m + 1) .nils = [] := ⟨rfl, rfl⟩
theorem pf_view {o g E sz n m : Nat} {l : Bool} (ys : List (List C)) (hg : σ.g o = g) (ho : σ.o o = .row l E sz (dmm ys)) (hn : n = ys.length) : frz σ (m + 1) (.view o g 0 n) = some (.sl ys) ∧ reach σ (m + 1) (.view o g 0 n) = [o] := by
  subst hn
  simp [frz, reach, hg, ho, pure_dmm]
theorem pf_part {o g E sz lo n m : Nat} {l : Bool} (xs : List α) (hg : σ.g o = g) (ho : σ.o o = .row l E sz (dmm (xs.map enc))) (hn : lo + n ≤ xs.length) : frz σ (m + 1) (.view o g lo n) = some (.sl (((xs.drop lo).take n).map enc)) ∧ reach σ (m + 1) (.view o g lo n) = [o] := by
  have h1 : (dmm (xs.map enc)).length = xs.length := by simp
  simp only [frz, reach, hg, ho, if_true, pure_dmm, h1, hn, List.map_take, List.map_drop, and_self]

theorem pr_nil {m : Nat} : allSome (([] : List (List AC)).map fun x => allSome (x.map (frz σ m))) = some [] ∧ ([] : List (List AC)).flatMap (fun x => x.flatMap (reach σ m)) = [] := ⟨rfl, rfl⟩
theorem pr_cons {x : List AC} {xs : List (List AC)} {y : List C} {ys : List (List C)} {R R' : List Nat} {m : Nat} (h : allSome (x.map (frz σ m)) = some y ∧ x.flatMap (reach σ m) = R) (t : allSome (xs.map fun x => allSome (x.map (frz σ m))) = some ys ∧ xs.flatMap (fun x => x.flatMap (reach σ m)) = R') :
    allSome ((x :: xs).map fun x => allSome (x.map (frz σ m))) = some (y :: ys) ∧ (x :: xs).flatMap (fun x => x.flatMap (reach σ m)) = R ++ R' := by
  simp only [List.map_cons, allSome, h, t, List.flatMap_cons]; exact ⟨rfl, trivial⟩
theorem pf_expl {o g E sz n m : Nat} {l : Bool} {xs : List (List AC)} {ys : List (List C)} {R : List Nat} (hg : σ.g o = g) (ho : σ.o o = .row l E sz xs) (hp : pureRow xs = none) (hn : n = xs.length) (h : allSome (xs.map fun x => allSome (x.map (frz σ m))) = some ys ∧ xs.flatMap (fun x => x.flatMap (reach σ m)) = R) :
    frz σ (m + 1) (.view o g 0 n) = some (.sl ys) ∧ reach σ (m + 1) (.view o g 0 n) = o :: R := by
  subst hn
  simp only [frz, reach, hg, ho, if_true, hp, Nat.zero_add, Nat.le_refl, List.drop_zero, List.take_length, h, Option.map_some, and_self]

theorem d_iaa_ref {n o g i off : Nat} {k : IntKind} {j : Int} {x i' : AX} {z : Int} (xs : List Int) (hx : σ.ev x = .one (.ref o g i off)) (hi : σ.ev i' = .one (.d (.int k j))) (h0 : 0 ≤ j) (h1 : xs[j.toNat]? = some z) (hl : decide (xs.length = n) = true) :
    det σ d (.iaa n 1 x i') = some (.one (.ref o g i (off + j.toNat * 1)), []) := by
  have hlt : j.toNat < xs.length := (List.getElem?_eq_some_iff.1 h1).1
  have hl := of_decide_eq_true hl
  have : idx j n = some j.toNat := by
    unfold idx
    rw [if_pos ⟨h0, by omega⟩]
  simp only [det, hx, hi, asI, this, Option.map_some]
theorem d_ixa_i {n : Nat} {k ik : IntKind} {j : Int} {x i' : AX} {rest : List AC} (xs : List Int) (z : Int) (hx : σ.ev x = .agg ((xs.map fun y => .d (.int ik y)) ++ rest)) (hi : σ.ev i' = .one (.d (.int k j))) (h0 : 0 ≤ j) (h1 : xs[j.toNat]? = some z) (hl : decide (xs.length = n) = true) :
    det σ d (.ixa n 1 false x i') = some (.one (.d (.int ik z)), []) := by
  have hlt : j.toNat < xs.length := (List.getElem?_eq_some_iff.1 h1).1
  have hl := of_decide_eq_true hl
  have : idx j n = some j.toNat := by
    unfold idx
    rw [if_pos ⟨h0, by omega⟩]
  have h2 : ((xs.map fun y => AC.d (.int ik y)) ++ rest).drop (j.toNat * 1) = .d (.int ik z) :: ((xs.map fun y => AC.d (.int ik y)) ++ rest).drop (j.toNat + 1) := by
    rw [Nat.mul_one, List.drop_eq_getElem_cons (by simp; omega)]
    congr 1
    rw [List.getElem_append_left (by simpa using hlt)]
    simp [(List.getElem?_eq_some_iff.1 h1).2]
  simp only [det, hx, hi, asI, this, h2, ldVal]
  simp
theorem d_ld_arr {o g i off kk E sz : Nat} {l : Bool} {ik : IntKind} {a : AX} {rows : List (List AC)} {cs rest : List AC} (xs : List Int) (z : Int) (ha : σ.ev a = .one (.ref o g i (off + kk * 1))) (hg : σ.g o = g) (ho : σ.o o = .row l E sz rows) (hr : rows[i]? = some cs)
    (hc : cs.drop off = (xs.map fun y => AC.d (.int ik y)) ++ rest) (h1 : xs[kk]? = some z) : det σ d (.ld false 1 a) = some (.one (.d (.int ik z)), []) := by
  have hlt : kk < xs.length := (List.getElem?_eq_some_iff.1 h1).1
  have h2 : cs.drop (off + kk * 1) = .d (.int ik z) :: ((xs.map fun y => AC.d (.int ik y)) ++ rest).drop (kk + 1) := by
    rw [Nat.mul_one, ← List.drop_drop, hc, List.drop_eq_getElem_cons (by simp; omega)]
    congr 1
    rw [List.getElem_append_left (by simpa using hlt)]
    simp [(List.getElem?_eq_some_iff.1 h1).2]
  simp only [det, ha, hg, ho, if_true, hr, h2, ldVal]
  simp

/-- A call of a function that has a row of its own. -/
theorem ret_own {fl : List Bool} {avs : List AV} {z : Bool} {rv : V RC} {k : Nat} {xs : List (List C)} {u : Nat × Nat × AO} (h1 : (cellsV rv).filter isOwn = []) (h2 : ownOf fl avs = some k) (h3 : ownBack σ k xs = some u) : retE σ d fl avs z rv [xs] = some (valA σ d rv, frozenUpd σ (ledTo σ fl avs z) ++ [u]) := by
  simp [retE, h1, h2, h3]

/-- What the own row holds at the end. -/
theorem b_own {args : List (V RC)} {E sz : Nat} {xs : List (List C)} (zs : List (List C)) (ha : ownArg args = some (E, sz, xs)) (hg : σ.g ownP = 0) (ho : σ.o ownP = .row true E sz (dmm zs)) (hl : zs.length = xs.length) : backRows σ args = some [zs] := by
  simp [backRows, ha, hg, ho, hl, pure_dmm]
/-- A row that was handed over holds this now. -/
theorem ob_row {k E sz : Nat} {ys : List (List AC)} (xs : List α) (ho : σ.o k = .row true E sz ys) (hl : ys.length = xs.length) (he : ∀ x, (enc x).length = sz) : ownBack σ k (xs.map enc) = some (k, σ.g k, .row true E sz (dmm (xs.map enc))) := by
  have : (xs.map enc).all (fun x => decide (x.length = sz)) = true := by simp [he]
  simp [ownBack, ho, hl, this]
end

/-- A call of a function that is one of several. -/
theorem l_callv {P : Program} {K : ASt → Prop} {ops : List AR} {L : List (Nat × Option (List Nat))} {A : Option (List Nat)} {i : Nat} {σ : ASt} {c : C} (dst : Option Nat) (x : AX) (xs : List AX) (avs : List AV) (fl : List Bool) (args : List (V RC)) (R : List Nat) {K0 : V RC → List (List (List C)) → Prop}
    (hop : (ops.getD i default).op = .callv x xs ∧ (ops.getD i default).dst = dst) (hok : okCall A σ (ops.getD i default) = true) (hx : σ.ev x = .one (.d c)) (havs : xs.map σ.ev = avs)
    (hcall : ∃ f S, c = .fn f [] ∧ enters P f = true ∧ COK P f S ∧ S args K0) (hp : passArgs σ fl avs = some args ∧ reachArgs σ fl avs = R) (hn : decide ((args.map nOwn).sum ≤ 1) = true) (ho : ownFree R (ownOf fl avs) = true) (hm : R.all (fun k => isRowMap (σ.o k) && k != ownP) = true)
    (hK : reachArgs σ fl avs = R → ∀ rv rows, K0 rv rows → ∃ z e, (z = true → (flatV rv && flatRows rows) = true) ∧ retE σ (dst.getD 999999) fl avs z rv rows = some e ∧ stepsL P (some ownP) ops L (σ.put dst e) K) : stepsL P (some ownP) ops ((i, A) :: L) σ K := by
  obtain ⟨f, S, rfl, he, hc, hS⟩ := hcall
  refine l_call hc he dst avs fl args R ?_ hp hn ho hm hS hK
  unfold chkCall
  rw [if_pos hok]
  unfold calleeOf
  rw [hop.1, hop.2]
  simp only [hx, havs, List.map_nil, List.append_nil, Option.map_some]

/-- Maps, as lists of entries. -/
def alGet {κ β : Type} [DecidableEq κ] (k : κ) : List (κ × β) → Option β
  | [] => none
  | p :: r => if k = p.1 then some p.2 else alGet k r
def alPut {κ β : Type} [DecidableEq κ] (k : κ) (v : β) : List (κ × β) → List (κ × β)
  | [] => [(k, v)]
  | p :: r => if k = p.1 then (k, v) :: r else p :: alPut k v r

section
variable {σ : ASt} {d : Nat} {κ β : Type} [DecidableEq κ] {ek : κ → List C} {ev : β → List C}

abbrev enc2 (ek : κ → List C) (ev : β → List C) (m : List (κ × β)) : List (List C × List C) := m.map fun p => (ek p.1, ev p.2)

theorem findE_al {ks : List CK} (hk : ∀ a b, eqCells ks (ek a) (ek b) = some (decide (a = b))) (k : κ) : ∀ (m : List (κ × β)), (∃ i v, alGet k m = some v ∧ findE ks (ek k) (enc2 ek ev m) = some (some (i, ev v)) ∧ ∀ v', (enc2 ek ev m).set i (ek k, ev v') = enc2 ek ev (alPut k v' m)) ∨
    (alGet k m = none ∧ findE ks (ek k) (enc2 ek ev m) = some none ∧ ∀ v', enc2 ek ev m ++ [(ek k, ev v')] = enc2 ek ev (alPut k v' m))
  | [] => .inr ⟨rfl, rfl, fun _ => rfl⟩
  | p :: m => by
    by_cases e : k = p.1
    · exact .inl ⟨0, p.2, by simp [alGet, e], by simp [enc2, findE, hk, e], fun v' => by simp [enc2, alPut, e]⟩
    · rcases findE_al hk k m with ⟨i, v, h1, h2, h3⟩ | ⟨h1, h2, h3⟩
      · refine .inl ⟨i + 1, v, by simp [alGet, e, h1], ?_, fun v' => ?_⟩
        · simp only [enc2] at h2
          simp [enc2, findE, hk, e, h2]
        · have := h3 v'
          simp only [enc2] at this
          simp [enc2, alPut, e, this]
      · refine .inr ⟨by simp [alGet, e, h1], ?_, fun v' => ?_⟩
        · simp only [enc2] at h2
          simp [enc2, findE, hk, e, h2]
        · have := h3 v'
          simp only [enc2] at this
          simp [enc2, alPut, e, this]

def valOf (agg : Bool) (cs : List C) : AV := if agg then .agg (dm cs) else .one (.d (cs.headD .nilp))

theorem d_lkp {ks : List CK} {kagg agg : Bool} {z : List K} {x k : AX} {ok : Bool} {va : Bool} (m : List (κ × β)) (kk : κ) (dv : β) (hk : ∀ a b, eqCells ks (ek a) (ek b) = some (decide (a = b))) (hx : mapOf σ (σ.ev x) = some (kagg, va, enc2 ek ev m)) (hva : va = agg ∨ m = [])
    (hkey : (cellsOf (σ.ev k)).bind pureCells = some (ek kk)) (hagg : isAggV (σ.ev k) = kagg) (hlen : (ek kk).length = ks.length) (hz : zval agg z = valOf agg (ev dv)) (h1 : agg = false → ∀ v, (ev v).length = 1) :
    det σ d (.lkp ks kagg agg z x k ok) = some (if ok then .tup [valOf agg (ev ((alGet kk m).getD dv)), .one (.d (.bool (alGet kk m).isSome))] else valOf agg (ev ((alGet kk m).getD dv)), []) := by
  have hes : va = agg ∨ enc2 ek ev m = [] := hva.imp id fun h => by rw [h]; rfl
  have hv : ∀ v, toVal agg (dm (ev v)) = some (valOf agg (ev v)) := fun v => by
    cases agg with
    | true => rfl
    | false =>
      have := h1 rfl v
      match hh : ev v, this with
      | [c], _ => rfl
  simp only [det, hx, hkey, hagg, hlen, true_and]
  rw [if_pos hes]
  rcases findE_al (ek := ek) (ev := ev) hk kk m with ⟨i, v, h2, h3, _⟩ | ⟨h2, h3, _⟩
  · rw [h3]; simp only [hv, Option.map_some, h2, Option.getD_some, Option.isSome_some]
  · rw [h3]; simp only [h2, Option.getD_none, hz, Option.isSome_none]

theorem d_lkp0 {ks : List CK} {kagg agg : Bool} {z : List K} {x k : AX} {ok : Bool} {ka va : Bool} (kk : κ) (dv : β) (hx : mapOf σ (σ.ev x) = some (ka, va, [])) (hkey : (cellsOf (σ.ev k)).bind pureCells = some (ek kk)) (hagg : isAggV (σ.ev k) = kagg) (hlen : (ek kk).length = ks.length) (hz : zval agg z = valOf agg (ev dv)) :
    det σ d (.lkp ks kagg agg z x k ok) = some (if ok then .tup [valOf agg (ev dv), .one (.d (.bool false))] else valOf agg (ev dv), []) := by
  simp only [det, hx, hkey, hagg, hlen, true_and, or_true, if_true, findE, hz]

theorem d_mup {ks : List CK} {kagg vagg : Bool} {x k v : AX} {o g : Nat} (m : List (κ × β)) (kk : κ) (vv : β) (hk : ∀ a b, eqCells ks (ek a) (ek b) = some (decide (a = b))) (hx : σ.ev x = .one (.mpr o g)) (hg : σ.g o = g) (ho : σ.o o = .map true kagg vagg (enc2 ek ev m))
    (hkey : (cellsOf (σ.ev k)).bind pureCells = some (ek kk)) (hagg : isAggV (σ.ev k) = kagg) (hlen : (ek kk).length = ks.length) (hval : (cellsOf (σ.ev v)).bind pureCells = some (ev vv)) (hvagg : isAggV (σ.ev v) = vagg) :
    det σ d (.mup ks kagg x k v) = some (.tup [], [(o, g, .map true kagg vagg (enc2 ek ev (alPut kk vv m)))]) := by
  simp only [det, hx, hkey, hval, hg, ho, hagg, hlen, hvagg, true_and, if_true, true_or]
  rcases findE_al (ek := ek) (ev := ev) hk kk m with ⟨i, v, h2, h3, h4⟩ | ⟨h2, h3, h4⟩
  · rw [h3]; simp only [h4]
  · rw [h3]; simp only [h4]

theorem d_rng {x : AX} {ka va : Bool} (m : List (κ × β)) (hx : σ.ev x = .one (.d (.mp ka va (enc2 ek ev m)))) : det σ d (.rng x) = some (.one (.itr d (σ.g d + 1)), [(d, σ.g d + 1, .iter ka va (enc2 ek ev m) none)]) := by
  simp only [det, hx]

end

theorem map_erase {α β : Type} (f : α → β) : ∀ (l : List α) (j : Nat), (l.map f).eraseIdx j = (l.eraseIdx j).map f
  | [], _ => rfl
  | _ :: _, 0 => rfl
  | x :: l, j + 1 => by simp [List.eraseIdx, map_erase f l j]

/-- A slice against nil: an empty one may be nil, or not. -/
theorem l_isn {P : Program} {pk : Option Nat} {σ : ASt} {K : ASt → Prop} {ops : List AR} {L : List (Nat × Option (List Nat))} {i : Nat} {α : Type} {enc : α → List C} (dst : Option Nat) (x : AX) (xs : List α)
    (h1 : (ops.getD i default).dst = dst ∧ (ops.getD i default).op = .isn x ∧ (ops.getD i default).grd = none) (hx : σ.ev x = .one (.d (.sl (xs.map enc))))
    (hn : ∀ b : Bool, (b = true → xs = []) → stepsL P pk ops L (σ.put dst (.one (.d (.bool b)), [])) K) : stepsL P pk ops ((i, none) :: L) σ K := by
  obtain ⟨h1, h2, h3⟩ := h1
  simp only [stepsL, List.map_cons, stepsA, stepA]
  rw [if_neg (by rw [h2]; simp [detOp])]
  refine ⟨fun B hB _ => (by cases hB), ?_⟩
  unfold stepWp
  rw [h3, h2]
  simp only [opWp, hx]
  intro b hb
  rw [h1]
  exact hn b fun h => by simpa using hb h

/-- The next entry of a map that is ranged over. -/
theorem l_nxt {P : Program} {pk : Option Nat} {σ : ASt} {K : ASt → Prop} {ops : List AR} {L : List (Nat × Option (List Nat))} {i : Nat} {κ β : Type} {ek : κ → List C} {ev : β → List C} {cur : Option (List C × List C)} (dst : Option Nat) (x : AX) (o g : Nat) (ka va : Bool) (left : List (κ × β)) {A B : Prop}
    (h1 : (ops.getD i default).dst = dst ∧ (ops.getD i default).op = .nxt x ∧ (ops.getD i default).grd = none) (hx : σ.ev x = .one (.itr o g)) (hg : σ.g o = g) (ho : σ.o o = .iter ka va (enc2 ek ev left) cur)
    (he : left = [] → stepsL P pk ops L (σ.put dst (.tup [.one (.d (.bool false))], [])) K)
    (hn : ∀ j e, left[j]? = some e → stepsL P pk ops L (σ.put dst (.tup [.one (.d (.bool true)), .any, .any], [(o, g, .iter ka va (enc2 ek ev (left.eraseIdx j)) (some (ek e.1, ev e.2)))])) K) : stepsL P pk ops ((i, none) :: L) σ K := by
  obtain ⟨h1, h2, h3⟩ := h1
  simp only [stepsL, List.map_cons, stepsA, stepA]
  rw [if_neg (by rw [h2]; simp [detOp])]
  refine ⟨fun B hB _ => (by cases hB), ?_⟩
  unfold stepWp
  rw [h3, h2]
  simp only [opWp, hx]
  refine ⟨hg.symm, ka, va, enc2 ek ev left, cur, ho, fun h => ?_, fun j e h => ?_⟩
  · rw [h1]; exact he (by simpa [enc2] using h)
  · rw [h1]
    simp only [enc2, List.getElem?_map, Option.map_eq_some_iff] at h
    obtain ⟨p, hp, rfl⟩ := h
    have := hn j p hp
    have e : (enc2 ek ev left).eraseIdx j = enc2 ek ev (left.eraseIdx j) := map_erase _ left j
    rw [e]
    exact this

/-- Typed data out of a reading. -/
def fieldOf (P : Program) (t j : Nat) : Option (Nat × Nat × Nat) := match P.underlying t with
  | some (.struct fs) => (fs.toList[j]?).map fun f => (f.type, f.offset, P.cellsOf f.type)
  | _ => none
def lenOf (P : Program) (t : Nat) : Option Nat := match P.underlying t with
  | some (.struct _) | some (.array _ _) => some (P.cellsOf t)
  | _ => none
def elemOf (P : Program) (t : Nat) : Option (Nat × Nat × Nat) := match P.underlying t with
  | some (.array m e) => some (m, e, P.cellsOf e)
  | _ => none

section
variable {P : Program} {n t : Nat} {cs : List C}
theorem hasT_len {m : Nat} (hl : lenOf P t = some m) (h : HasT P (n + 1) t cs) : cs.length = m := by
  unfold lenOf at hl
  unfold HasT at h
  split at hl
  · rename_i fs hu; rw [hu] at h; cases hl; exact h.1
  · rename_i a b hu; rw [hu] at h; cases hl; exact h.1
  · cases hl
theorem hasT_fld {j ft off sz : Nat} (hf : fieldOf P t j = some (ft, off, sz)) (h : HasT P (n + 1) t cs) : HasT P n ft ((cs.drop off).take sz) := by
  unfold fieldOf at hf
  unfold HasT at h
  split at hf
  · rename_i fs hu
    rw [hu] at h
    obtain ⟨f, hj, e⟩ := Option.map_eq_some_iff.1 hf
    simp only [Prod.mk.injEq] at e
    obtain ⟨rfl, rfl, rfl⟩ := e
    exact h.2 f (List.mem_of_getElem? hj)
  · cases hf
theorem hasT_elem {m e sz : Nat} (he : elemOf P t = some (m, e, sz)) (i : Nat) (hi : decide (i < m) = true) (h : HasT P (n + 1) t cs) : HasT P n e ((cs.drop (i * sz)).take sz) := by
  unfold elemOf at he
  unfold HasT at h
  split at he
  · rename_i m' e' hu
    rw [hu] at h
    cases he
    exact h.2 i (of_decide_eq_true hi)
  · cases he
theorem hasT_int {k : IntKind} (hu : P.underlying t = some (.int k)) (h : HasT P (n + 1) t cs) : ∃ x, cs = [.int k x] ∧ k.min ≤ x ∧ x ≤ k.max := by
  unfold HasT at h
  rw [hu] at h
  obtain ⟨x, h1, h2⟩ := h
  simp only [Lit.wf, Bool.and_eq_true, decide_eq_true_eq] at h2
  exact ⟨x, h1, h2⟩
theorem hasT_bool (hu : P.underlying t = some .bool) (h : HasT P (n + 1) t cs) : ∃ b, cs = [.bool b] := by
  unfold HasT at h
  rw [hu] at h
  exact h
theorem hasT_str (hu : P.underlying t = some .string) (h : HasT P (n + 1) t cs) : ∃ s, cs = [.str s] ∧ s.size ≤ 9223372036854775807 := by
  unfold HasT at h
  rw [hu] at h
  exact h
theorem hasT_sl {e : Nat} {α : Type} {enc : α → List C} {W : α → Prop} (hu : P.underlying t = some (.slice e)) (he : ∀ x, HasT P n e x → ∃ a, x = enc a ∧ W a) (h : HasT P (n + 1) t cs) : ∃ l : List α, cs = [.sl (l.map enc)] ∧ l.length ≤ 9223372036854775807 ∧ ∀ a ∈ l, W a := by
  unfold HasT at h
  rw [hu] at h
  obtain ⟨xs, rfl, h1, h2⟩ := h
  have : ∀ ys : List (List C), (∀ x ∈ ys, HasT P n e x) → ∃ l : List α, ys = l.map enc ∧ ∀ a ∈ l, W a := by
    intro ys
    induction ys with
    | nil => intro _; exact ⟨[], rfl, by simp⟩
    | cons y ys ih =>
      intro hy
      obtain ⟨a, ha, wa⟩ := he y (hy y (by simp))
      obtain ⟨l, hl, wl⟩ := ih fun x hx => hy x (by simp [hx])
      exact ⟨a :: l, by rw [ha, hl]; rfl, by simpa using ⟨wa, wl⟩⟩
  obtain ⟨l, hl, wl⟩ := this xs fun x hx => (h2 x hx).2
  refine ⟨l, by rw [hl], ?_, wl⟩
  have : l.length = xs.length := by rw [hl]; simp
  rw [this]; exact h1
end

end Go.Proofs.Ytnpdeecoejabgaa
