/- PLAIN LAWS, 2: the traces of a short story. -/
import Derived.Test.YtnpdeecoejabgaaPS
set_option maxRecDepth 100000
set_option linter.unusedSimpArgs false
set_option linter.unusedVariables false
namespace Go.Proofs.Ytnpdeecoejabgaa
open Go Go.RowKit

/-- The three tags of a call. -/
def tags3 (zone : ByteArray) (ok size : Int) : List TAttr := [TAttr.mk (⟨#[111, 107]⟩ : ByteArray) (TValue.mk 3 (⟨#[]⟩ : ByteArray) ok), TAttr.mk (⟨#[115, 105, 122, 101]⟩ : ByteArray) (TValue.mk 2 (⟨#[]⟩ : ByteArray) size), TAttr.mk (⟨#[122, 111, 110, 101]⟩ : ByteArray) (TValue.mk 1 zone 0)]
def zones : List ByteArray := [(⟨#[97]⟩ : ByteArray), (⟨#[98]⟩ : ByteArray), (⟨#[119, 101, 115, 116, 32, 49]⟩ : ByteArray)]
def TagsOk (l : List TAttr) : Prop := ∃ k zone ok size, l = (tags3 zone ok size).take k ∧ zone ∈ zones ∧ (ok = 0 ∨ ok = 1) ∧ -1000 ≤ size ∧ size ≤ 1000
def LinksOk (l : List TRef) : Prop := l = [] ∨ ∃ r : TRef, l = [r] ∧ 1 ≤ r.trace ∧ r.trace ≤ 100000000 ∧ 1 ≤ r.id ∧ r.id ≤ 16

theorem W84_of {c : TCall} (hc : c.wf) {K : List TAttr → Prop} (h : ∀ a, TagsOk a → K a) : W84 c K := by
  unfold W84
  have h1 : 0 ≤ Int.tdiv c.tag 8 ∧ Int.tdiv c.tag 8 ≤ 255 := by
    rw [Int.tdiv_eq_ediv_of_nonneg hc.tag.1]
    have := hc.tag
    omega
  have h4 : 0 ≤ Int.tdiv c.tag 4 ∧ Int.tdiv c.tag 4 ≤ 255 := by
    rw [Int.tdiv_eq_ediv_of_nonneg hc.tag.1]
    have := hc.tag
    omega
  rw [u8_in h1.1 h1.2, u8_in h4.1 h4.2]
  have h2 := tmod_in h1.1 (show (0:Int) < 3 by omega)
  have h3 := tmod_in hc.tag.1 (show (0:Int) < 4 by omega)
  have h5 := tmod_in h4.1 (show (0:Int) < 2 by omega)
  have ht := hc.tag
  refine idx_of h2.1 (by simp; omega) fun x hx => ⟨h3.1, by simp; omega, h _ ⟨(Int.tmod c.tag 4).toNat - 0, x, _, _, rfl, mem_of_get hx, ?_, ?_⟩⟩
  · rw [w64_in (n := Int.tmod (Int.tdiv c.tag 4) 2) (by omega) (by omega)]; omega
  · rw [w64_in (n := c.tag) (by omega) (by omega), w64_in (by omega) (by omega)]; omega

/-- What is known of the span of a call. -/
structure MadeSpan (s : TStory) (k i : Nat) (t : TTree) (st en : Int) (x : TSpan) : Prop where
  svc : x.service ∈ svcs
  ver : x.version ∈ vers
  op : x.operation ∈ opss
  start : x.start = st
  stop : x.end_ = en
  clock : 1 ≤ x.clock ∧ x.clock ≤ 4
  trace : x.trace = traceId s k t
  id : x.id = (i : Int) + 1
  parent : 0 ≤ x.parent ∧ x.parent ≤ 1000
  revision : x.revision = 0
  kind : 1 ≤ x.kind ∧ x.kind ≤ 5
  tags : TagsOk x.attrs
  links : LinksOk x.links

theorem W69_of {s : TStory} (hw : s.wf) {k i : Nat} {t : TTree} (ht : s.trees[k]? = some t) (hk : k < 3) {c : TCall} (hc : t.calls[i]? = some c) (hi : i < 8) {st en : List Int} (h1 : st.length = t.calls.length) (h2 : en.length = t.calls.length)
    {K : TSpan → Prop} (h : ∀ x a b, st[i]? = some a → en[i]? = some b → MadeSpan s k i t a b x → K x) : W69 s k i st en K := by
  unfold W69
  have hklt := (List.getElem?_eq_some_iff.1 ht).1
  have hilt := (List.getElem?_eq_some_iff.1 hc).1
  have hcw := (hw.trees t (mem_of_get ht)).calls c (mem_of_get hc)
  refine idx_nat hklt fun t' ht' => ?_
  rw [ht] at ht'; cases ht'
  refine idx_nat hilt fun c' hc' => ?_
  rw [hc] at hc'; cases hc'
  refine idx_nat (by omega) fun a ha => idx_nat (by omega) fun b hb => W41_of hw ht hk (W83_of hcw fun kd hk1 hk2 _ => ?_)
  have m1 := tmod_in hcw.service.1 (show (0:Int) < 4 by omega)
  have m2 := tmod_in hcw.version.1 (show (0:Int) < 3 by omega)
  have m3 := tmod_in hcw.operation.1 (show (0:Int) < 3 by omega)
  have m4 := tmod_in hcw.link.1 (show (0:Int) < 16 by omega)
  have m5 := tmod_in hcw.clock.1 (show (0:Int) < 4 by omega)
  refine idx_of m1.1 (by simp; omega) fun sv hsv => idx_of m2.1 (by simp; omega) fun vr hvr => idx_of m3.1 (by simp; omega) fun op hop => ?_
  have e1 : w64 ((i : Int) + 1) = (i : Int) + 1 := w64_in (by omega) (by omega)
  have e2 : w64 c.parent = c.parent := w64_in (by have := hcw.parent; omega) (by have := hcw.parent; omega)
  have e3 : w64 (c.link.tmod 16) = c.link.tmod 16 := w64_in (by omega) (by omega)
  have e4 : w64 (c.clock.tmod 4) = c.clock.tmod 4 := w64_in (by omega) (by omega)
  have e5 : w64 (1 + c.clock.tmod 4) = 1 + c.clock.tmod 4 := w64_in (by omega) (by omega)
  rw [e1]
  refine ⟨by omega, ?_⟩
  have hid1 : 1 ≤ traceId s k t ∧ traceId s k t ≤ 100000000 := by
    unfold traceId
    have := tmod_in (hw.trees t (mem_of_get ht)).slot.1 (show (0:Int) < 64 by omega)
    omega
  have fin : ∀ (v : Int) (ls : List TRef), 0 ≤ v → v ≤ 1000 → LinksOk ls → J69_2 c K (traceId s k t) i v kd sv vr op a b ls := fun v ls hv1 hv2 hls => by
    unfold J69_2
    refine W84_of hcw fun at_ hat => h _ a b ha hb ⟨mem_of_get hsv, mem_of_get hvr, mem_of_get hop, rfl, rfl, ?_, rfl, by dsimp only; exact e1, ⟨hv1, hv2⟩, rfl, ⟨hk1, hk2⟩, hat, hls⟩
    dsimp only
    rw [e4, e5]; omega
  have l3 : ∀ (v : Int) (q : Bool), 0 ≤ v → v ≤ 1000 → J69_3 c K (traceId s k t) i v kd sv vr op a b q := fun v q hv1 hv2 => by
    unfold J69_3
    refine cond_bool (fun _ => fin _ _ hv1 hv2 (.inr ⟨_, rfl, hid1.1, hid1.2, ?_⟩)) (fun _ => fin _ _ hv1 hv2 (.inl rfl))
    dsimp only
    rw [e3, w64_in (by omega) (by omega)]; omega
  have l1 : ∀ v : Int, 0 ≤ v → v ≤ 1000 → J69_1 c i st K (traceId s k t) kd sv vr op a b v := fun v hv1 hv2 => by
    unfold J69_1
    rw [e3]
    refine cond_dec (fun hl => idx_of m4.1 (by omega) fun x _ => ?_) (fun _ => l3 _ _ hv1 hv2)
    have := l3 v (decide (x ≤ a)) hv1 hv2
    exact this
  have hpm := tmod_in (m := (i : Int) + 1) hcw.parent.1 (by omega)
  refine cond_dec (fun _ => l1 _ ?_ ?_) (fun _ => cond_dec (fun _ => l1 _ (by omega) (by omega)) (fun _ => l1 _ (by omega) (by omega)))
  · rw [e2, w64_in (by omega) (by omega)]; omega
  · rw [e2, w64_in (by omega) (by omega)]; omega

theorem W70_of {s : TStory} (hw : s.wf) {c : Int} (h1 : 1 ≤ c) (h2 : c ≤ 4) {K : Int → Prop} (h : ∀ r, -20 ≤ r → r ≤ 20 → K r) : W70 s c K := by
  unfold W70
  rw [u64_in (n := c) (by omega) (by omega), u64_in (n := c + 3) (by omega) (by omega)]
  have m := tmod_in (n := c + 3) (by omega) (show (0:Int) < 4 by omega)
  refine idx_of m.1 (by simp; omega) fun x hx => ?_
  have hx : -128 ≤ x ∧ x ≤ 127 := by
    have := mem_of_get hx
    simp only [List.mem_cons, List.not_mem_nil, or_false] at this
    rcases this with rfl | rfl | rfl | rfl
    · exact hw.e0
    · exact hw.e1
    · exact hw.e2
    · exact hw.e3
  rw [w64_in (by omega) (by omega)]
  have hn : (x.tmod 21).natAbs = x.natAbs % 21 := Int.natAbs_tmod x 21
  have : (x.tmod 21).natAbs < 21 := by rw [hn]; exact Nat.mod_lt _ (by omega)
  exact h _ (by omega) (by omega)

/-- What else is known of a span. -/
structure SpanOk (x : TSpan) : Prop where
  clock : 1 ≤ x.clock ∧ x.clock ≤ 4
  parent : 0 ≤ x.parent ∧ x.parent ≤ 1000
  revision : x.revision = 0
  kind : 1 ≤ x.kind ∧ x.kind ≤ 5
  tags : TagsOk x.attrs
  links : LinksOk x.links
/-- What is known of the spans of a trace. -/
structure TraceSpans (s : TStory) (k : Nat) (t : TTree) (l : List TSpan) : Prop where
  len : l.length ≤ 8
  good : ∀ x ∈ l, GoodSpan x
  fine : ∀ x ∈ l, SpanOk x
  ids : ∀ (j : Nat) (x : TSpan), l[j]? = some x → x.trace = traceId s k t ∧ x.id = (j : Int) + 1

theorem W42_of {s : TStory} (hw : s.wf) (hs : Short s) {k : Nat} {t : TTree} (ht : s.trees[k]? = some t) {K : List TSpan → Prop} (h : ∀ l, TraceSpans s k t l → l.length = t.calls.length → K l) : W42 s k false K := by
  unfold W42
  have hklt := (List.getElem?_eq_some_iff.1 ht).1
  have hk : k < 3 := by have := hs.trees; omega
  have htw := hw.trees t (mem_of_get ht)
  have h8 := hs.calls t (mem_of_get ht)
  refine idx_nat hklt fun t' ht' => ?_
  rw [ht] at ht'; cases ht'
  refine W68_of htw h8 fun st en h1 h2 h3 => ?_
  refine loop_idx t.calls.length (fun i (v : List TSpan × Int) => v.2 = (i : Int) ∧ v.1.length = i ∧ TraceSpans s k t v.1) ⟨rfl, rfl, ⟨by simp, by simp, by simp, by simp⟩⟩ ?_
  rintro i ⟨l, v⟩ N hi ⟨rfl, g1, g2⟩ hN
  dsimp only at g1 g2 ⊢
  unfold L42_1
  refine cond_dec (fun hlt => ?_) (fun hge => h l g2 (by omega))
  have hil : i < t.calls.length := by omega
  refine W69_of hw ht hk (c := t.calls[i]) (by simp [hil]) (by omega) h1 h2 fun x a b ha hb hm => ?_
  have hab := h3 i a b ha hb
  refine cond_not (fun _ => ?_) (fun h => by cases h)
  refine W70_of hw hm.clock.1 hm.clock.2 fun r hr1 hr2 => ?_
  have fin : ∀ q : Int, -20 ≤ q → q ≤ 520 → J42_3 l x N (i : Int) q := by
    intro q hq1 hq2
    unfold J42_3 J42_2
    have e1 : w64 (x.start + q) = x.start + q := w64_in (by rw [hm.start]; omega) (by rw [hm.start]; omega)
    have e2 : w64 (x.end_ + q) = x.end_ + q := w64_in (by rw [hm.stop]; omega) (by rw [hm.stop]; omega)
    rw [e1, e2, w64_in (n := (i : Int) + 1) (by omega) (by omega)]
    refine fits_of (by simp; omega) (hN _ (by omega) ⟨by simp, by simp [g1], ?_⟩)
    refine ⟨by simp; omega, fun y hy => ?_, fun y hy => ?_, fun j y hy => ?_⟩
    rotate_left
    · dsimp only at hy
      rcases List.mem_append.1 hy with hy | hy
      · exact g2.fine y hy
      · simp only [List.mem_cons, List.not_mem_nil, or_false] at hy
        subst hy
        exact ⟨hm.clock, hm.parent, hm.revision, hm.kind, hm.tags, hm.links⟩
    rotate_left
    · dsimp only at hy
      rcases List.mem_append.1 hy with hy | hy
      · exact g2.good y hy
      · simp only [List.mem_cons, List.not_mem_nil, or_false] at hy
        subst hy
        exact ⟨hm.svc, hm.ver, hm.op, by dsimp only; rw [hm.start]; omega, by dsimp only; rw [hm.start, hm.stop]; omega, by dsimp only; rw [hm.stop]; omega⟩
    · dsimp only at hy
      rcases Nat.lt_trichotomy j i with hj | hj | hj
      · rw [List.getElem?_append_left (by omega)] at hy
        exact g2.ids j y hy
      · subst hj
        rw [List.getElem?_append_right (by omega)] at hy
        simp [g1] at hy
        subst hy
        exact ⟨hm.trace, hm.id⟩
      · have := (List.getElem?_eq_some_iff.1 hy).1
        simp at this; omega
  have l4 : ∀ q : Bool, J42_4 l x N (i : Int) r q := by
    intro q
    unfold J42_4
    refine cond_bool (fun _ => ?_) (fun _ => fin r hr1 (by omega))
    rw [w64_in (by omega) (by omega)]
    exact fin _ (by omega) (by omega)
  exact cond_dec (fun _ => cond_dec (fun _ => l4 _) (fun _ => l4 _)) (fun _ => l4 _)

/-- What is known of the traces of a story. -/
structure StoryL (s : TStory) (l : List TTrace) : Prop where
  len : l.length ≤ 3
  all : ∀ x ∈ l, ∃ k t, s.trees[k]? = some t ∧ x.id = traceId s k t ∧ x.weight = 1 ∧ x.spans.length = t.calls.length ∧ t.calls ≠ [] ∧ TraceSpans s k t x.spans
  sorted : l.Pairwise fun a b => a.id < b.id

theorem traceId_inj {s : TStory} (hw : s.wf) {k k' : Nat} {t t' : TTree} (ht : s.trees[k]? = some t) (ht' : s.trees[k']? = some t') (hk : k < 3) (hk' : k' < 3) (h : traceId s k t = traceId s k' t') : k = k' := by
  unfold traceId at h
  have m1 := tmod_in (hw.trees t (mem_of_get ht)).slot.1 (show (0:Int) < 64 by omega)
  have m2 := tmod_in (hw.trees t' (mem_of_get ht')).slot.1 (show (0:Int) < 64 by omega)
  omega

theorem W17_of {s : TStory} (hw : s.wf) (hs : Short s) {K : List TTrace → Prop} (h : ∀ l, StoryL s l → K l) : W17 s K := by
  unfold W17
  have h3 := hs.trees
  refine loop_idx s.trees.length (fun i (v : List TTrace × Int) => v.2 = (i : Int) ∧ v.1.length ≤ i ∧ (∀ x ∈ v.1, ∃ k t, k < i ∧ s.trees[k]? = some t ∧ x.id = traceId s k t ∧ x.weight = 1 ∧ x.spans.length = t.calls.length ∧ t.calls ≠ [] ∧ TraceSpans s k t x.spans) ∧ v.1.Pairwise fun a b => a.id < b.id)
    ⟨rfl, by simp, by simp, List.Pairwise.nil⟩ ?_
  rintro i ⟨l, v⟩ N hi ⟨rfl, g1, g2, g3⟩ hN
  dsimp only at g1 g2 g3 ⊢
  unfold L17_1
  have e1 : w64 ((i : Int) + 1) = (i : Int) + 1 := w64_in (by omega) (by omega)
  refine cond_dec (fun hlt => ?_) (fun _ => h l ⟨by omega, fun x hx => let ⟨k, t, _, h⟩ := g2 x hx; ⟨k, t, h⟩, g3⟩)
  have hil : i < s.trees.length := by omega
  refine idx_nat hil fun t ht => cond_dec (fun h0 => ?_) (fun hne => ?_)
  · unfold J17_2
    rw [e1]
    exact hN _ (by omega) ⟨by simp, by dsimp only; omega, fun x hx => let ⟨k, t, hk, h⟩ := g2 x hx; ⟨k, t, by omega, h⟩, g3⟩
  · refine W41_of hw ht (by omega) (W42_of hw hs ht fun sp hsp hlen => ?_)
    have new : ∀ x ∈ l, x.id ≠ traceId s i t := fun x hx e => by
      obtain ⟨k, t', hk, ht', hid, _⟩ := g2 x hx
      have := traceId_inj hw ht' ht (by omega) (by omega) (hid.symm.trans e)
      omega
    refine loop_of (fun (n : Int) => 0 ≤ n ∧ n ≤ l.length ∧ ∀ x ∈ l.drop n.toNat, traceId s i t < x.id) (fun n => n.toNat) ⟨by omega, by omega, by simp⟩ ?_
    rintro n N' ⟨hn0, hnl, hn⟩ hN'
    unfold L17_3
    have fin : (∀ x ∈ l.take n.toNat, x.id < traceId s i t) → J17_4 N' n l (traceId s i t) sp N (i : Int) false := by
      intro hlo
      unfold J17_4
      refine ⟨fun h => (by cases h), fun _ => ⟨hn0, hnl, hn0, hnl, ?_⟩⟩
      have e3 : ([] ++ List.take (n.toNat - 0) (List.drop 0 l) ++ [TTrace.mk (traceId s i t) 1 sp] ++ List.take (l.length - n.toNat) (List.drop n.toNat l)) = l.take n.toNat ++ TTrace.mk (traceId s i t) 1 sp :: l.drop n.toNat := by
        have : List.take (l.length - n.toNat) (List.drop n.toNat l) = l.drop n.toNat := List.take_of_length_le (by simp)
        rw [this]; simp
      have e4 : (l.take n.toNat ++ TTrace.mk (traceId s i t) 1 sp :: l.drop n.toNat).length = l.length + 1 := by simp; omega
      refine fits_of (by simp; omega) (fits_of (by simp; omega) ?_)
      rw [e3]
      refine fits_of (by rw [e4]; omega) ?_
      unfold J17_2
      rw [e1]
      refine hN _ (by omega) ⟨by simp, by dsimp only; rw [e4]; omega, fun x hx => ?_, ?_⟩
      · dsimp only at hx
        rcases List.mem_append.1 hx with hx | hx
        · obtain ⟨k, t, hk, h⟩ := g2 x (List.mem_of_mem_take hx); exact ⟨k, t, by omega, h⟩
        · rcases List.mem_cons.1 hx with rfl | hx
          · exact ⟨i, t, by omega, ht, rfl, rfl, hlen, fun e => hne (by simp [e]), hsp⟩
          · obtain ⟨k, t, hk, h⟩ := g2 x (List.mem_of_mem_drop hx); exact ⟨k, t, by omega, h⟩
      · dsimp only
        refine List.pairwise_append.2 ⟨g3.sublist (List.take_sublist _ _), List.pairwise_cons.2 ⟨fun x hx => hn x hx, g3.sublist (List.drop_sublist _ _)⟩, fun a ha b hb => ?_⟩
        rcases List.mem_cons.1 hb with rfl | hb
        · exact hlo a ha
        · have h1 := hlo a ha
          have h2 := hn b hb
          omega
    refine cond_dec (fun hpos => ?_) (fun hz => fin (by have : n.toNat = 0 := by omega
                                                        rw [this]; simp))
    have e5 : w64 (n - 1) = n - 1 := w64_in (by omega) (by omega)
    rw [e5]
    refine idx_of (by omega) (by omega) fun x hx => ?_
    have hxm := mem_of_get hx
    by_cases hgt : x.id > traceId s i t
    · have : decide (x.id > traceId s i t) = true := decide_eq_true hgt
      rw [this]
      unfold J17_4
      refine ⟨fun _ => ?_, fun h => (by cases h)⟩
      rw [e5]
      refine hN' _ ⟨by omega, by omega, fun y hy => ?_⟩ (by omega)
      have hd : l.drop (n - 1).toNat = x :: l.drop n.toNat := by
        have hlt2 : (n - 1).toNat < l.length := by omega
        rw [List.drop_eq_getElem_cons hlt2]
        have e6 : (n - 1).toNat + 1 = n.toNat := by omega
        rw [e6]
        have : l[(n - 1).toNat] = x := (List.getElem?_eq_some_iff.1 hx).2
        rw [this]
      rw [hd] at hy
      rcases List.mem_cons.1 hy with rfl | hy
      · exact hgt
      · exact hn y hy
    · have : decide (x.id > traceId s i t) = false := decide_eq_false hgt
      rw [this]
      refine fin fun y hy => ?_
      have hne' := new x hxm
      -- all before x are smaller
      obtain ⟨j, hj⟩ := List.getElem?_of_mem hy
      rw [List.getElem?_take] at hj
      split at hj
      · rename_i hjl
        have hjlen := (List.getElem?_eq_some_iff.1 hj).1
        have hxlen := (List.getElem?_eq_some_iff.1 hx).1
        rcases Nat.lt_or_ge j (n - 1).toNat with hlt' | hge'
        · have := List.pairwise_iff_getElem.1 g3 j (n - 1).toNat hjlen hxlen hlt'
          rw [(List.getElem?_eq_some_iff.1 hj).2, (List.getElem?_eq_some_iff.1 hx).2] at this
          omega
        · have : j = (n - 1).toNat := by omega
          subst this
          rw [hx] at hj; cases hj; omega
      · cases hj

theorem StoryL.good {s : TStory} {l : List TTrace} (h : StoryL s l) : GoodL l :=
  ⟨h.len, fun t ht => by
    obtain ⟨k, tr, _, _, hw, _, _, hs⟩ := h.all t ht
    exact ⟨hs.len, by omega, by omega, hs.good⟩⟩

end Go.Proofs.Ytnpdeecoejabgaa
