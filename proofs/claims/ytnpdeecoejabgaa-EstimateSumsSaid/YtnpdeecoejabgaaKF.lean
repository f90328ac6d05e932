/- THE ABSTRACT MACHINE, 6: more operations that only compute: parts, addresses, cuts. -/
import Derived.Test.YtnpdeecoejabgaaKE
set_option linter.unusedSimpArgs false
set_option linter.unusedVariables false
namespace Go.Proofs.Ytnpdeecoejabgaa
open Go Go.RowKit

section
variable {P : Program} {o : Oper} {cx : Ctx} {μ : Nat → Option Nat} {σ : ASt} {a : Act} {w : World}

theorem go_not (h : Rel cx μ σ a w) (hd : ∀ d, o.dst = some d → d < cx.n) {t : TypeId} {x : Operand} {ax : AX} (ho : o.op = .unOp .not t x) (hx : toX x = some ax) {b : Bool} (hb : σ.ev ax = .one (.d (.bool b))) :
    Goes P o cx σ a w (.one (.d (.bool !b)), []) := by
  have h1 := ev_bool h hx hb
  exact goes_val h hd (by simp [execOp, ho, h1, Op.unary]) rbool

theorem go_neg (h : Rel cx μ σ a w) (hd : ∀ d, o.dst = some d → d < cx.n) {t : TypeId} {x : Operand} {ax : AX} (ho : o.op = .unOp .neg t x) (hx : toX x = some ax) {k : IntKind} {n : Int} (hb : σ.ev ax = .one (.d (.int k n))) :
    Goes P o cx σ a w (.one (.d (.int k (k.wrap (0 - n)))), []) := by
  have h1 := ev_int h hx hb
  exact goes_val h hd (by simp [execOp, ho, h1, Op.unary, Op.intArith]) rint

theorem go_cvi (h : Rel cx μ σ a w) (hd : ∀ d, o.dst = some d → d < cx.n) {s t : TypeId} {x : Operand} {ax : AX} {k k' : IntKind} (ho : o.op = .convert s t x) (hx : toX x = some ax) (hs : P.underlying s = some (.int k')) (ht : P.underlying t = some (.int k))
    {n : Int} (hn : asI (σ.ev ax) = some n) : Goes P o cx σ a w (.one (.d (.int k (k.wrap n))), []) := by
  obtain ⟨q, h1⟩ := ev_asI h hx hn
  exact goes_val h hd (by simp [execOp, ho, h1, convert, run_underlying hs, run_underlying ht, Conv.intToInt]) rint

theorem go_cvs (h : Rel cx μ σ a w) (hd : ∀ d, o.dst = some d → d < cx.n) {s t : TypeId} {x : Operand} {ax : AX} (ho : o.op = .convert s t x) (hx : toX x = some ax) (hs : P.underlying s = some .string) (ht : P.underlying t = some .string)
    {b : ByteArray} (hb : σ.ev ax = .one (.d (.str b))) : Goes P o cx σ a w (.one (.d (.str b)), []) := by
  have h1 := ev_str h hx hb
  exact goes_val h hd (by simp [execOp, ho, h1, convert, run_underlying hs, run_underlying ht]) rstr

theorem go_ext (h : Rel cx μ σ a w) (hd : ∀ d, o.dst = some d → d < cx.n) {x : Operand} {i : Nat} {ax : AX} (ho : o.op = .extract x i) (hx : toX x = some ax) {vs : List AV} (hv : σ.ev ax = .tup vs) {v : AV} (hi : vs[i]? = some v) :
    Goes P o cx σ a w (v, []) := by
  have h1 := ev_toX h hx
  rw [hv] at h1
  obtain ⟨us, h2, h3, h4⟩ := rv_tup h1
  have hlt : i < us.size := by rw [← h3]; exact (List.getElem?_eq_some_iff.1 hi).1
  exact goes_val h hd (u := us[i]) (by simp [execOp, ho, h2, Instr.extract, hlt]) (h4 i v _ hi (by simp [hlt]))

theorem go_lenc {e : TypeId} (h : Rel cx μ σ a w) (hd : ∀ d, o.dst = some d → d < cx.n) {x : Operand} {t : TypeId} {n : Nat} (ho : o.op = .call { callee := .builtin .len, args := #[x], argTypes := #[t] })
    (ht : P.underlying t = some (.array n e) ∨ ∃ p, P.underlying t = some (.pointer p) ∧ P.underlying p = some (.array n e)) : Goes P o cx σ a w (.one (.d (.int .i64 n)), []) := by
  refine goes_val h hd (u := .int .i64 n) ?_ rint
  rcases ht with ht | ⟨p, ht, hp⟩
  · simp only [execOp, ho, resolve, invoke, builtin, Builtin.len_]
    cases a.eval x <;> simp [run_underlying ht, goInt]
  · simp only [execOp, ho, resolve, invoke, builtin, Builtin.len_]
    cases a.eval x <;> simp [run_underlying ht, run_underlying hp, goInt]

theorem rc_sl {g o μ w X xs v} (h : RelC g o μ w X (.d (.sl xs)) v) : ∃ ad cap, v = .slice ad xs.length cap := by
  cases h with
  | d h => cases h with
    | sl0 a cap => exact ⟨_, _, rfl⟩
    | sl xs ad n cap sz f hn => subst hn; exact ⟨_, _, rfl⟩

theorem view_at {g o μ w X k q lo n v l E sz xs} (h : RelC g o μ w X (.view k q lo n) v) (hq : q = g k) (ho : o k = .row l E sz xs) :
    (μ k = none ∧ lo = 0 ∧ n = 0 ∧ ∃ a, v = .slice a 0 0) ∨ (lo ≠ 0 ∧ n = 0 ∧ ∃ a c, v = .slice a 0 c) ∨
      ∃ b cap cur, μ k = some b ∧ w.heap[b]? = some (.cells cur E (0, 0)) ∧ cur.size = (lo + cap) * sz ∧ v = .slice (some ⟨b, lo * sz, none⟩) n cap ∧ n ≤ cap := by
  cases h with
  | view hg h1 h2 =>
    have := h2 hq
    rw [ho] at this
    exact this


theorem go_lens (h : Rel cx μ σ a w) (hd : ∀ d, o.dst = some d → d < cx.n) {x : Operand} {ax : AX} {t e : TypeId} (ho : o.op = .call { callee := .builtin .len, args := #[x], argTypes := #[t] }) (hx : toX x = some ax)
    {n : Nat} (hn : (∃ xs, σ.ev ax = .one (.d (.sl xs)) ∧ n = xs.length) ∨ (∃ k q lo, σ.ev ax = .one (.view k q lo n)) ∨ (σ.ev ax = .one .nils ∧ n = 0))
    (ht : P.underlying t = some (.slice e)) : Goes P o cx σ a w (.one (.d (.int .i64 n)), []) := by
  have h1 := ev_toX h hx
  have h2 : ∃ ad c, a.eval x = .slice ad n c := by
    rcases hn with ⟨xs, he, rfl⟩ | ⟨k, q, lo, he⟩ | ⟨he, rfl⟩
    · rw [he] at h1; obtain ⟨ad, c, h2⟩ := rc_sl (rv_one h1); exact ⟨ad, c, h2⟩
    · rw [he] at h1; cases rv_one h1 with | view _ h2 _ => exact h2
    · rw [he] at h1; generalize a.eval x = u at h1; cases rv_one h1; exact ⟨_, _, rfl⟩
  obtain ⟨ad, c, h2⟩ := h2
  refine goes_val h hd (u := .int .i64 n) ?_ rint
  simp [execOp, ho, resolve, invoke, builtin, Builtin.len_, run_underlying ht, h2, goInt]

theorem go_lent (h : Rel cx μ σ a w) (hd : ∀ d, o.dst = some d → d < cx.n) {x : Operand} {ax : AX} {t : TypeId} (ho : o.op = .call { callee := .builtin .len, args := #[x], argTypes := #[t] }) (hx : toX x = some ax)
    {s : ByteArray} (hs : σ.ev ax = .one (.d (.str s))) (ht : P.underlying t = some .string) : Goes P o cx σ a w (.one (.d (.int .i64 s.size)), []) := by
  have h2 := ev_str h hx hs
  refine goes_val h hd (u := .int .i64 s.size) ?_ rint
  simp [execOp, ho, resolve, invoke, builtin, Builtin.len_, run_underlying ht, h2, goInt]

theorem allSome_spec {α : Type} : ∀ {l : List (Option α)} {r : List α}, allSome l = some r → l = r.map some
  | [], r, h => by simp [allSome] at h; subst h; rfl
  | none :: l, r, h => by simp [allSome] at h
  | some a :: l, r, h => by
    simp only [allSome, Option.map_eq_some_iff] at h
    obtain ⟨r', h1, rfl⟩ := h
    rw [allSome_spec h1]; rfl

theorem compArgs_spec {xs : Array Operand} {l : List AX} (h : compArgs xs = some l) : xs.toList.map toX = l.map some := allSome_spec h

theorem go_mm (h : Rel cx μ σ a w) (hd : ∀ d, o.dst = some d → d < cx.n) {xs : Array Operand} {l : List AX} {ts : Array TypeId} {m : Bool} (ho : o.op = .call { callee := .builtin (if m then .max else .min), args := xs, argTypes := ts })
    (hx : compArgs xs = some l) {x : AV} {r : List AV} (hl : l.map σ.ev = x :: r) {v : AV} (hv : foldO (minmax m) x r = some v) : Goes P o cx σ a w (v, []) := by
  have hxs := compArgs_spec hx
  obtain ⟨xs⟩ := xs
  simp only at hxs
  cases l with
  | nil => simp at hl
  | cons ax l =>
    simp only [List.map_cons, List.cons.injEq] at hl
    obtain ⟨rfl, rfl⟩ := hl
    cases xs with
    | nil => simp at hxs
    | cons x xs =>
      simp only [List.map_cons, List.cons.injEq] at hxs
      obtain ⟨h1, h2⟩ := hxs
      have key : ∀ (xs : List Operand) (l : List AX) (acc : AV) (u : Value), xs.map toX = l.map some → RV cx μ σ w acc u → foldO (minmax m) acc (l.map σ.ev) = some v →
          ∃ u', ((xs.map a.eval).foldlM (if m then Builtin.max2 else Builtin.min2) u).run P w = .ok u' w ∧ RV cx μ σ w v u' := by
        intro xs
        induction xs with
        | nil =>
          intro l acc u h3 h4 h5
          cases l with
          | nil => simp only [List.map_nil, foldO, Option.some.injEq] at h5; subst h5; exact ⟨u, by simp, h4⟩
          | cons b l => simp at h3
        | cons y xs ih =>
          intro l acc u h3 h4 h5
          cases l with
          | nil => simp at h3
          | cons b l =>
            simp only [List.map_cons, List.cons.injEq] at h3
            simp only [List.map_cons, foldO] at h5
            split at h5
            · rename_i c hc
              have h6 := ev_toX h h3.1
              unfold minmax at hc
              split at hc
              · rename_i k p k' q e1
                rw [e1] at h6
                have h7 := rc_int (rv_one h6)
                have h8 := rc_int (rv_one h4)
                simp only [Option.some.injEq] at hc
                subst hc
                obtain ⟨u', h9, h10⟩ := ih l _ (.int k (if m then (if q > p then q else p) else (if q < p then q else p))) h3.2 rint h5
                refine ⟨u', ?_, h10⟩
                rw [List.map_cons, List.foldlM_cons, h7, h8]
                cases m <;> simp [Builtin.max2, Builtin.min2] at h9 ⊢ <;> exact h9
              · simp at hc
            · simp at h5
      obtain ⟨u', h3, h4⟩ := key xs l _ _ h2 (ev_toX h h1) hv
      refine goes_val h hd (u := u') ?_ h4
      cases m
      · simp only [Bool.false_eq_true, if_false] at ho h3
        simp [execOp, ho, resolve, invoke, builtin, Builtin.min_, h3]
      · simp only [if_true] at ho h3
        simp [execOp, ho, resolve, invoke, builtin, Builtin.max_, h3]

theorem idx_some {i : Int} {n k : Nat} (h : idx i n = some k) : 0 ≤ i ∧ i < n ∧ k = i.toNat ∧ k < n := by
  unfold idx at h
  split at h
  · rename_i hi
    simp only [Option.some.injEq] at h
    exact ⟨hi.1, hi.2, h.symm, by omega⟩
  · simp at h

theorem go_ixs (h : Rel cx μ σ a w) (hd : ∀ d, o.dst = some d → d < cx.n) {x y : Operand} {ax ay : AX} {t : TypeId} (ho : o.op = .index t x y) (hx : toX x = some ax) (hy : toX y = some ay) (ht : P.underlying t = some .string)
    {s : ByteArray} (hs : σ.ev ax = .one (.d (.str s))) {i : Int} (hi : asI (σ.ev ay) = some i) {k : Nat} (hk : idx i s.size = some k) {b : UInt8} (hb : s[k]? = some b) :
    Goes P o cx σ a w (.one (.d (.int .u8 b.toNat)), []) := by
  have h1 := ev_str h hx hs
  obtain ⟨q, h2⟩ := ev_asI h hy hi
  obtain ⟨h3, h4, rfl, h5⟩ := idx_some hk
  refine goes_val h hd (u := .int .u8 b.toNat) ?_ rint
  simp [execOp, ho, Instr.index, h1, h2, asIntOf, run_underlying ht, h3, hb]


theorem add_add (ad : Addr) (hs : ad.spot = none) (n m : Nat) : (ad.add n).add m = ad.add (n + m) := by
  cases ad with | mk b f sp =>
  simp only at hs
  subst hs
  unfold Addr.add
  by_cases h1 : n = 0 <;> by_cases h2 : m = 0 <;> simp [h1, h2, Nat.add_assoc]
theorem add_spot (ad : Addr) (hs : ad.spot = none) (n : Nat) : (ad.add n).spot = none := by unfold Addr.add; split <;> simp [hs]
theorem add_mk (b f n : Nat) : (⟨b, f, none⟩ : Addr).add n = ⟨b, f + n, none⟩ := by unfold Addr.add; split <;> simp_all

theorem ptr_drop {X : Nat → Prop} {cs : List C} {v : Value} (h : RepC w X (.ptr cs) v) (off : Nat) : ∃ ad, v = .pointer (some ad) ∧ RepC w X (.ptr (cs.drop off)) (.pointer (some (ad.add off))) := by
  cases h with
  | ptr cs ad f hsp hX hb hc hr =>
    refine ⟨ad, rfl, .ptr _ _ (fun j => f (off + j)) (add_spot ad hsp off) (by rw [add_block]; exact hX) (by rw [add_block]; exact hb) (fun j c hj => ?_) (fun j c hj => ?_)⟩
    · rw [add_add _ hsp]; exact hc _ _ (by rw [List.getElem?_drop] at hj; exact hj)
    · exact hr _ _ (by rw [List.getElem?_drop] at hj; exact hj)

theorem ref_at {g o μ w X k q i off v} (h : RelC g o μ w X (.ref k q i off) v) : ∃ ad, v = .pointer (some ad) := by cases h with | ref _ h1 _ => exact h1

theorem ref_shift {g o μ w X k q i off v} (h : RelC g o μ w X (.ref k q i off) v) (n : Nat) : ∃ ad, v = .pointer (some ad) ∧ RelC g o μ w X (.ref k q i (off + n)) (.pointer (some (ad.add n))) := by
  cases h with
  | ref hg h1 h2 =>
    obtain ⟨ad, rfl⟩ := h1
    refine ⟨ad, rfl, .ref hg ⟨_, rfl⟩ fun e => ?_⟩
    have := h2 e
    unfold RefAt at this ⊢
    split
    · rename_i l E sz xs hx
      rw [hx] at this
      simp only at this
      obtain ⟨b, h3, h4⟩ := this
      simp only [Value.pointer.injEq, Option.some.injEq] at h4
      subst h4
      exact ⟨b, h3, by rw [add_mk, Nat.add_assoc]⟩
    · trivial

theorem go_fad (h : Rel cx μ σ a w) (hd : ∀ d, o.dst = some d → d < cx.n) {x : Operand} {ax : AX} {s : TypeId} {f : Nat} {fs : Array Field} {fd : Field} {i : TypeInfo} (ho : o.op = .fieldAddr s x f) (hx : toX x = some ax)
    (hs : P.underlying s = some (.struct fs)) (hf : fs[f]? = some fd) (hi : P.info? fd.type = some i) (h0 : 0 < i.size)
    {v : AV} (hv : (∃ cs, σ.ev ax = .one (.d (.ptr cs)) ∧ v = .one (.d (.ptr (cs.drop fd.offset)))) ∨ ∃ k q j n, σ.ev ax = .one (.ref k q j n) ∧ v = .one (.ref k q j (n + fd.offset))) : Goes P o cx σ a w (v, []) := by
  have h1 := ev_toX h hx
  have hi0 : ¬ i.size = 0 := by omega
  have run : ∀ ad, a.eval x = .pointer (some ad) → (execOp a.eval o).run P w = .ok (.value (.pointer (some (ad.add fd.offset)))) w := fun ad he => by
    simp [execOp, ho, Instr.fieldAt, run_underlying hs, hf, he, Instr.sureAddr, fieldPlace, sizeOf, typeInfo, hi, hi0]
  rcases hv with ⟨cs, he, rfl⟩ | ⟨k, q, j, n, he, rfl⟩
  · rw [he] at h1
    cases rv_one h1 with
    | d h2 =>
      obtain ⟨ad, h3, h4⟩ := ptr_drop h2 fd.offset
      exact goes_val h hd (run ad h3) (.one _ _ (.d h4) rfl)
  · rw [he] at h1
    obtain ⟨ad, h3, h4⟩ := ref_shift (rv_one h1) fd.offset
    exact goes_val h hd (run ad h3) (.one _ _ h4 rfl)

theorem go_iad (h : Rel cx μ σ a w) (hd : ∀ d, o.dst = some d → d < cx.n) {x y : Operand} {ax ay : AX} {t e : TypeId} {j : TypeInfo} (ho : o.op = .indexAddr t x y) (hx : toX x = some ax) (hy : toX y = some ay)
    (ht : P.underlying t = some (.slice e)) (hj : P.info? e = some j) {i : Int} (hi : asI (σ.ev ay) = some i)
    {v : AV} (hv : (∃ xs k cs, σ.ev ax = .one (.d (.sl xs)) ∧ idx i xs.length = some k ∧ xs[k]? = some cs ∧ cs.length = j.size ∧ v = .one (.d (.ptr cs))) ∨
      ∃ k q lo n l E xs m, σ.ev ax = .one (.view k q lo n) ∧ q = σ.g k ∧ σ.o k = .row l E j.size xs ∧ idx i n = some m ∧ v = .one (.ref k q (lo + m) 0)) : Goes P o cx σ a w (v, []) := by
  have h1 := ev_toX h hx
  obtain ⟨q, h2⟩ := ev_asI h hy hi
  have run : ∀ ad n c, a.eval x = .slice (some ad) n c → 0 ≤ i → i < n → (execOp a.eval o).run P w = .ok (.value (.pointer (some (ad.add (i.toNat * j.size))))) w := fun ad n c he h3 h4 => by
    simp [execOp, ho, Instr.indexAt, run_underlying ht, he, h2, asIntOf, h3, h4, sizeOf, typeInfo, hj]
  rcases hv with ⟨xs, k, cs, he, hk, hc, hl, rfl⟩ | ⟨k, q', lo, n, l, E, xs, m, he, hq, hrow, hk, rfl⟩
  · rw [he] at h1
    obtain ⟨h3, h4, rfl, h5⟩ := idx_some hk
    generalize a.eval x = u at h1 run
    cases rv_one h1 with
    | d h2' => cases h2' with
      | sl0 => simp at h5
      | sl xs ad n cap sz f hn hs hm hcp hsp hX hb hcc hr =>
        have hsz : sz = j.size := by rw [← hl]; exact (hs cs (List.mem_of_getElem? hc)).symm
        subst hsz
        refine goes_val h hd (run ad n cap rfl h3 (by omega)) (.one _ _ (.d (.ptr cs _ (f i.toNat) (add_spot ad hsp _) (by rw [add_block]; exact hX) (by rw [add_block]; exact hb) (fun m c hm => ?_) (fun m c hm => hr _ _ hc _ _ hm))) rfl)
        rw [add_add _ hsp]
        exact hcc _ _ hc _ _ hm
  · rw [he] at h1
    obtain ⟨h3, h4, rfl, h5⟩ := idx_some hk
    have h6 := view_at (rv_one h1) hq hrow
    have hg : q' ≤ σ.g k := by cases rv_one h1 with | view hg _ _ => exact hg
    rcases h6 with ⟨_, _, h7, _⟩ | ⟨_, h7, _⟩ | ⟨b, cap, cur, h7, h8, h9, h10, h11⟩
    · omega
    · omega
    · refine goes_val h hd (run _ n cap h10 h3 h4) (.one _ _ (.ref hg ⟨_, rfl⟩ fun _ => ?_) rfl)
      unfold RefAt
      rw [hrow]
      exact ⟨b, h7, by rw [add_mk, Nat.add_mul]; rfl⟩

theorem go_iaa (h : Rel cx μ σ a w) (hd : ∀ d, o.dst = some d → d < cx.n) {x y : Operand} {ax ay : AX} {t e : TypeId} {len : Nat} {j : TypeInfo} (ho : o.op = .indexAddr t x y) (hx : toX x = some ax) (hy : toX y = some ay)
    (ht : P.underlying t = some (.array len e)) (hj : P.info? e = some j) {i : Int} (hi : asI (σ.ev ay) = some i) {k : Nat} (hk : idx i len = some k)
    {v : AV} (hv : (∃ cs, σ.ev ax = .one (.d (.ptr cs)) ∧ v = .one (.d (.ptr (cs.drop (k * j.size))))) ∨ ∃ m q p n, σ.ev ax = .one (.ref m q p n) ∧ v = .one (.ref m q p (n + k * j.size))) : Goes P o cx σ a w (v, []) := by
  have h1 := ev_toX h hx
  obtain ⟨q, h2⟩ := ev_asI h hy hi
  obtain ⟨h3, h4, rfl, h5⟩ := idx_some hk
  have run : ∀ ad, a.eval x = .pointer (some ad) → (execOp a.eval o).run P w = .ok (.value (.pointer (some (ad.add (i.toNat * j.size))))) w := fun ad he => by
    simp [execOp, ho, Instr.indexAt, run_underlying ht, he, h2, asIntOf, Instr.sureAddr, h3, h4, sizeOf, typeInfo, hj]
  rcases hv with ⟨cs, he, rfl⟩ | ⟨m, q', p, n, he, rfl⟩
  · rw [he] at h1
    cases rv_one h1 with
    | d h2' =>
      obtain ⟨ad, h6, h7⟩ := ptr_drop h2' (i.toNat * j.size)
      exact goes_val h hd (run ad h6) (.one _ _ (.d h7) rfl)
  · rw [he] at h1
    obtain ⟨ad, h6, h7⟩ := ref_shift (rv_one h1) (i.toNat * j.size)
    exact goes_val h hd (run ad h6) (.one _ _ h7 rfl)

theorem go_nck (h : Rel cx μ σ a w) (hd : ∀ d, o.dst = some d → d < cx.n) {x : Operand} {ax : AX} (ho : o.op = .nilCheck x) (hx : toX x = some ax)
    (hv : (∃ cs, σ.ev ax = .one (.d (.ptr cs))) ∨ (∃ k q i n, σ.ev ax = .one (.ref k q i n)) ∨ (∃ f cs, σ.ev ax = .one (.d (.fn f cs))) ∨ ∃ f cs, σ.ev ax = .one (.fn f cs)) : Goes P o cx σ a w (σ.ev ax, []) := by
  have h1 := ev_toX h hx
  refine goes_val h hd ?_ h1
  rcases hv with ⟨cs, he⟩ | ⟨k, q, i, n, he⟩ | ⟨f, cs, he⟩ | ⟨f, cs, he⟩ <;> rw [he] at h1
  · cases rv_one h1 with
    | d h2 =>
      obtain ⟨ad, h3, _⟩ := ptr_drop h2 0
      simp [execOp, ho, h3]
  · obtain ⟨ad, h3⟩ := ref_at (rv_one h1)
    simp [execOp, ho, h3]
  · have h2 : ∃ vs, a.eval x = .func (.func f) #[] vs := by
      generalize a.eval x = u at h1
      cases rv_one h1 with
      | d h2 => cases h2 with | fn => exact ⟨_, rfl⟩
    obtain ⟨vs, h3⟩ := h2
    simp [execOp, ho, h3]
  · have h2 : ∃ vs, a.eval x = .func (.func f) #[] vs := by
      generalize a.eval x = u at h1
      cases rv_one h1 with
      | fn => exact ⟨_, rfl⟩
    obtain ⟨vs, h3⟩ := h2
    simp [execOp, ho, h3]

/-- Parts of a value made of cells. -/
theorem part_run {t : TypeId} {i : TypeInfo} {d : TypeDesc} (hi : P.info? t = some i) (hd : P.underlying t = some d) (hs : isAggB d = true ∨ i.size = 1) {R : AC → Value → Prop} {cs : List AC} {vs : Array Value} (hl : cs.length = vs.size)
    (hc : ∀ (j : Nat) (a : AC) (u : Value), cs[j]? = some a → vs[j]? = some u → R a u ∧ u.oneCell' = true) {off : Nat} {v : AV} (hv : ldVal (isAggB d) i.size (cs.drop off) = some v) :
    ∃ u, (part t vs off).run P w = .ok u w ∧ RepV R v u := by
  unfold ldVal at hv
  split at hv
  case isFalse => simp at hv
  rename_i hn
  rw [List.length_drop] at hn
  have hagg : (isAgg t).run P w = .ok (isAggB d) w := by
    simp only [isAgg, Sem.run_bind, run_underlying hd, Result.andThen_ok]
    cases d <;> rfl
  cases hb : isAggB d with
  | true =>
    rw [hb] at hv hagg
    simp only [Option.some.injEq] at hv
    subst hv
    refine ⟨.agg (vs.extract off (off + i.size)), ?_, .agg _ _ ?_ ?_⟩
    · simp [part, hagg, sizeOf, typeInfo, hi]
    · simp only [List.length_take, List.length_drop, Array.size_extract]
      omega
    · intro j c u hj hu
      rw [List.getElem?_take] at hj
      split at hj
      · rename_i hlt
        rw [List.getElem?_drop] at hj
        have : vs[off + j]? = some u := by
          rw [Array.getElem?_extract] at hu
          split at hu
          · exact hu
          · cases hu
        exact hc _ _ _ hj this
      · cases hj
  | false =>
    rw [hb] at hv hagg hs
    have h1 : i.size = 1 := by rcases hs with hs | hs; cases hs; exact hs
    cases hcs : cs.drop off with
    | nil => rw [hcs] at hv; simp at hv
    | cons c r =>
      rw [hcs] at hv
      simp only [Option.some.injEq] at hv
      subst hv
      have hlt : off < vs.size := by omega
      have hco : cs[off]? = some c := by
        have : (cs.drop off)[0]? = some c := by rw [hcs]; rfl
        rw [List.getElem?_drop] at this
        exact this
      have h2 := hc off c vs[off] hco (by simp [hlt])
      refine ⟨vs[off], ?_, .one _ _ h2.1 h2.2⟩
      simp [part, hagg, hlt]

theorem go_fld (h : Rel cx μ σ a w) (hd : ∀ d, o.dst = some d → d < cx.n) {x : Operand} {ax : AX} {s : TypeId} {f : Nat} {fs : Array Field} {fd : Field} {i : TypeInfo} {d : TypeDesc} (ho : o.op = .field s x f) (hx : toX x = some ax)
    (hs : P.underlying s = some (.struct fs)) (hf : fs[f]? = some fd) (hi : P.info? fd.type = some i) (hdd : P.underlying fd.type = some d) (hsz : isAggB d = true ∨ i.size = 1)
    {cs : List AC} (hc : σ.ev ax = .agg cs) {v : AV} (hv : ldVal (isAggB d) i.size (cs.drop fd.offset) = some v) : Goes P o cx σ a w (v, []) := by
  have h1 := ev_toX h hx
  rw [hc] at h1
  obtain ⟨vs, h2, h3, h4⟩ := rv_agg h1
  obtain ⟨u, h5, h6⟩ := part_run (P := P) (w := w) hi hdd hsz h3 h4 hv
  exact goes_val h hd (by simp [execOp, ho, Instr.field, run_underlying hs, hf, h2, asAgg, h5]) h6

theorem go_ixa (h : Rel cx μ σ a w) (hd : ∀ d, o.dst = some d → d < cx.n) {x y : Operand} {ax ay : AX} {t e : TypeId} {len : Nat} {i : TypeInfo} {d : TypeDesc} (ho : o.op = .index t x y) (hx : toX x = some ax) (hy : toX y = some ay)
    (ht : P.underlying t = some (.array len e)) (hi : P.info? e = some i) (hdd : P.underlying e = some d) (hsz : isAggB d = true ∨ i.size = 1)
    {cs : List AC} (hc : σ.ev ax = .agg cs) {n : Int} (hn : asI (σ.ev ay) = some n) {k : Nat} (hk : idx n len = some k) {v : AV} (hv : ldVal (isAggB d) i.size (cs.drop (k * i.size)) = some v) : Goes P o cx σ a w (v, []) := by
  have h1 := ev_toX h hx
  rw [hc] at h1
  obtain ⟨vs, h2, h3, h4⟩ := rv_agg h1
  obtain ⟨q, h5⟩ := ev_asI h hy hn
  obtain ⟨h6, h7, rfl, h8⟩ := idx_some hk
  obtain ⟨u, h9, h10⟩ := part_run (P := P) (w := w) hi hdd hsz h3 h4 hv
  exact goes_val h hd (by simp [execOp, ho, Instr.index, run_underlying ht, h2, h5, asIntOf, h6, h7, sizeOf, typeInfo, hi, h9]) h10

end
end Go.Proofs.Ytnpdeecoejabgaa
