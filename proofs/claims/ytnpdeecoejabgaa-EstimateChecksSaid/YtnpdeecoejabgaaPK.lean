/- PLAIN LAWS, 11: estimate.Check accepts the traces of a story. -/
import Derived.Test.YtnpdeecoejabgaaPB
import Derived.Test.YtnpdeecoejabgaaPJ
set_option maxRecDepth 100000
set_option linter.unusedSimpArgs false
set_option linter.unusedVariables false
namespace Go.Proofs.Ytnpdeecoejabgaa
open Go Go.RowKit

/-- All bytes lie between two bounds. -/
def within (s : ByteArray) (lo hi : Int) : Bool := s.data.toList.all fun b => decide (lo ≤ (b.toNat : Int)) && decide ((b.toNat : Int) ≤ hi)

theorem W75_yes {s : ByteArray} (hs : s.size ≤ 9223372036854775806) {lo hi : Int} (hb : within s lo hi = true) {K : Bool → Prop} (h : K true) : W75 s lo hi K := by
  unfold W75
  refine loop_idx s.size (fun i v => v = (i : Int)) rfl ?_
  rintro i v N hi' rfl hN
  unfold L75_1
  refine cond_dec (fun hlt => ?_) fun _ => h
  have hil : i < s.size := by omega
  have hb' : lo ≤ (s[i].toNat : Int) ∧ (s[i].toNat : Int) ≤ hi := by
    unfold within at hb
    rw [List.all_eq_true] at hb
    have := hb s[i] (by
      have : s[i] = s.data[i]'hil := rfl
      rw [this]
      exact Array.getElem_mem_toList _)
    simpa using this
  have chr : ∀ {P : UInt8 → Prop}, P s[i] → Chr s (i : Int) P := fun hp => ⟨by omega, s[i], by simp [getElem?_pos s i hil], hp⟩
  refine chr (cond_dec (fun h => by omega) fun _ => chr ?_)
  have : decide ((s[i].toNat : Int) > hi) = false := decide_eq_false (by omega)
  rw [this]
  unfold J75_2
  refine ⟨fun h => (by cases h), fun _ => ?_⟩
  rw [w64_in (by omega) (by omega)]
  exact hN _ (by omega) (by simp)

/-- A name that is accepted. -/
def plain (s : ByteArray) : Bool := decide (¬ s = (⟨#[]⟩ : ByteArray)) && decide (s.size ≤ 64) && within s 33 126

theorem W54_yes {s : ByteArray} (hp : plain s = true) {K : Bool → Prop} (h : K true) : W54 s K := by
  unfold plain at hp
  simp only [Bool.and_eq_true] at hp
  obtain ⟨⟨h1, h2⟩, h3⟩ := hp
  have h1 := of_decide_eq_true h1
  have h2 := of_decide_eq_true h2
  unfold W54 J54_1
  exact cond_dec (fun _ => cond_dec (fun _ => W75_yes (by omega) h3 h) fun hn => absurd (by omega) hn) fun hn => absurd h1 hn

theorem W76_text {s : ByteArray} (h1 : s.size ≤ 4096) (h2 : within s 32 126 = true) {K : Int → Prop} (h : K 0) : W76 (TValue.mk 1 s 0) K := by
  unfold W76
  refine cond_dec (fun _ => W75_yes (show s.size ≤ 9223372036854775806 by omega) h2 ⟨fun _ => ?_, fun h => by cases h⟩) fun hn => absurd rfl hn
  unfold J76_1
  refine cond_dec (fun hg => by dsimp only at hg; omega) fun _ => cond_not (fun hn => by simp at hn) fun _ => h
theorem W76_size {n : Int} (h1 : -1000 ≤ n) (h2 : n ≤ 1000) {K : Int → Prop} (h : K 0) : W76 (TValue.mk 2 (⟨#[]⟩ : ByteArray) n) K := by
  unfold W76
  refine cond_dec (fun hn => by simp at hn) fun _ => cond_dec (fun _ => cond_dec (fun _ => cond_dec (fun _ => ?_) fun hn => absurd (show (-1099511627776) ≤ n by omega) hn) fun hn => absurd rfl hn) fun hn => absurd rfl hn
  have : decide ((TValue.mk 2 (⟨#[]⟩ : ByteArray) n).int ≤ 1099511627776) = true := decide_eq_true (by dsimp only; omega)
  rw [this]
  unfold J76_1
  refine cond_dec (fun hg => absurd hg (by dsimp only; decide)) fun _ => cond_not (fun hn => by cases hn) fun _ => h
theorem W76_ok {n : Int} (hn : n = 0 ∨ n = 1) {K : Int → Prop} (h : K 0) : W76 (TValue.mk 3 (⟨#[]⟩ : ByteArray) n) K := by
  unfold W76
  have fin : J76_1 (TValue.mk 3 (⟨#[]⟩ : ByteArray) n) K true := by
    unfold J76_1
    exact cond_dec (fun hg => absurd hg (by dsimp only; decide)) fun _ => cond_not (fun hn => by cases hn) fun _ => h
  refine cond_dec (fun hn => by simp at hn) fun _ => cond_dec (fun hn => by simp at hn) fun _ => cond_dec (fun _ => cond_dec (fun _ => cond_dec (fun _ => fin) fun h0 => ?_) fun hn => absurd rfl hn) fun hn => absurd rfl hn
  have : decide ((TValue.mk 3 (⟨#[]⟩ : ByteArray) n).int = 1) = true := decide_eq_true (by dsimp only at h0 ⊢; omega)
  rw [this]; exact fin

theorem tags_12 : (Op.bytesLess (⟨#[115, 105, 122, 101]⟩ : ByteArray).toList (⟨#[111, 107]⟩ : ByteArray).toList || decide ((⟨#[115, 105, 122, 101]⟩ : ByteArray) = (⟨#[111, 107]⟩ : ByteArray))) = false := by decide +kernel
theorem tags_23 : (Op.bytesLess (⟨#[122, 111, 110, 101]⟩ : ByteArray).toList (⟨#[115, 105, 122, 101]⟩ : ByteArray).toList || decide ((⟨#[122, 111, 110, 101]⟩ : ByteArray) = (⟨#[115, 105, 122, 101]⟩ : ByteArray))) = false := by decide +kernel

theorem W56_tags {l : List TAttr} (hl : TagsOk l) {K : Int → Prop} (h : K 0) : W56 l K := by
  obtain ⟨k, zone, ok, size, rfl, hz, hok, hs1, hs2⟩ := hl
  have h3 : (tags3 zone ok size).length = 3 := rfl
  have hlen : ((tags3 zone ok size).take k).length ≤ 3 := by rw [List.length_take, h3]; omega
  have hget : ∀ {i : Nat} {x : TAttr}, ((tags3 zone ok size).take k)[i]? = some x → (tags3 zone ok size)[i]? = some x := fun {i x} hx => by
    rw [List.getElem?_take] at hx
    split at hx
    · exact hx
    · cases hx
  have hzone : zone.size ≤ 4096 ∧ within zone 32 126 = true := by
    unfold zones at hz
    simp only [List.mem_cons, List.not_mem_nil, or_false] at hz
    rcases hz with rfl | rfl | rfl <;> decide
  unfold W56
  refine cond_dec (fun hg => by omega) fun _ => ?_
  refine loop_idx ((tags3 zone ok size).take k).length (fun i v => v = (i : Int)) rfl ?_
  rintro i v N hi rfl hN
  unfold L56_1
  refine cond_dec (fun hlt => ?_) fun _ => h
  refine idx_nat (by omega) fun x hx => ?_
  have hx3 := hget hx
  have hi3 : i < 3 := by omega
  have next : N (w64 ((i : Int) + 1)) := by
    rw [w64_in (by omega) (by omega)]
    exact hN _ (by omega) (by simp)
  have val : W76 x.value fun r => Cond (decide (¬ r = 0)) (K r) (N (w64 ((i : Int) + 1))) := by
    have e : ∀ {r : Int}, r = 0 → Cond (decide (¬ r = 0)) (K r) (N (w64 ((i : Int) + 1))) := fun {r} hr => cond_dec (fun hn => absurd hr hn) fun _ => next
    match i, hi3, hx3 with
    | 0, _, hx3 => cases hx3; exact W76_ok hok (e rfl)
    | 1, _, hx3 => cases hx3; exact W76_size hs1 hs2 (e rfl)
    | 2, _, hx3 => cases hx3; exact W76_text hzone.1 hzone.2 (e rfl)
  have fin : J56_2 K x N (i : Int) false := by
    unfold J56_2
    exact ⟨fun h => (by cases h), fun _ => val⟩
  have key : plain x.key = true := by
    match i, hi3, hx3 with
    | 0, _, hx3 => cases hx3; dsimp only; decide
    | 1, _, hx3 => cases hx3; dsimp only; decide
    | 2, _, hx3 => cases hx3; dsimp only; decide
  refine W54_yes key (cond_not (fun hn => by cases hn) fun _ => cond_dec (fun hp => ?_) fun _ => fin)
  have e1 : w64 ((i : Int) - 1) = ((i - 1 : Nat) : Int) := by rw [w64_in (by omega) (by omega)]; omega
  rw [e1]
  refine idx_nat (by omega) fun y hy => ?_
  have hy3 := hget hy
  have : (Op.bytesLess x.key.toList y.key.toList || decide (x.key = y.key)) = false := by
    match i, hi3, hx3, hy3, hp with
    | 0, _, _, _, hp => simp at hp
    | 1, _, hx3, hy3, _ => cases hx3; cases hy3; exact tags_12
    | 2, _, hx3, hy3, _ => cases hx3; cases hy3; exact tags_23
  rw [this]
  exact fin

theorem W57_links {l : List TRef} (hl : LinksOk l) {K : Int → Prop} (h : K 0) : W57 l K := by
  unfold W57
  rcases hl with rfl | ⟨r, rfl, h1, h2, h3, h4⟩
  · refine cond_dec (fun hg => by simp at hg) fun _ => loop_idx 0 (fun i v => v = (i : Int)) rfl ?_
    rintro i v N hi rfl hN
    unfold L57_1
    exact cond_dec (fun hg => by simp at hg; omega) fun _ => h
  · refine cond_dec (fun hg => by simp at hg) fun _ => loop_idx 1 (fun i v => v = (i : Int)) rfl ?_
    rintro i v N hi rfl hN
    unfold L57_1
    refine cond_dec (fun hg => ?_) fun _ => h
    have : i = 0 := by simp at hg; omega
    subst this
    refine idx_nat (by simp) fun x hx => ?_
    have : x = r := by simpa using hx.symm
    subst this
    refine W53_of fun q hq => ?_
    have : q = false := hq.2 (by omega)
    subst this
    refine ⟨fun h => (by cases h), fun _ => W53_of fun q hq => ?_⟩
    have : q = false := hq.2 (by omega)
    subst this
    unfold J57_2
    refine ⟨fun h => (by cases h), fun _ => cond_dec (fun h => by simp at h) fun _ => ?_⟩
    unfold J57_3
    refine ⟨fun h => (by cases h), fun _ => ?_⟩
    rw [w64_in (by omega) (by omega)]
    exact hN _ (by omega) (by simp)

theorem W55_zero {K : Int → Prop} (h : K 0) : W55 [0, 0] K := by
  unfold W55
  refine loop_idx 2 (fun i v => v = (i : Int)) rfl ?_
  rintro i v N hi rfl hN
  unfold L55_1
  refine cond_dec (fun hg => ?_) fun _ => h
  have hi2 : i < 2 := by simp at hg; omega
  refine idx_nat (by simp; omega) fun x hx => ?_
  have : x = 0 := by
    match i, hi2, hx with
    | 0, _, hx => simpa using hx.symm
    | 1, _, hx => simpa using hx.symm
  subst this
  refine cond_dec (fun hn => absurd rfl hn) fun _ => ?_
  rw [w64_in (by omega) (by omega)]
  exact hN _ (by omega) (by simp)

theorem W32_ok {x : TSpan} (hg : GoodSpan x) (hk : SpanOk x) (ht : 1 ≤ x.trace ∧ x.trace ≤ 100000000) (hi : 1 ≤ x.id ∧ x.id ≤ 100) {K : Int → Prop} (h : K 0) : W32 x K := by
  have no : ∀ {A B : Prop}, B → Cond false A B := fun hb => ⟨fun h => (by cases h), fun _ => hb⟩
  unfold W32
  refine W53_of fun q hq => ?_
  have : q = false := hq.2 (by omega)
  subst this
  refine no (W53_of fun q hq => ?_)
  have : q = false := hq.2 (by omega)
  subst this
  have hp := hk.parent
  have hr := hk.revision
  have hc := hk.clock
  have hkd := hk.kind
  refine no (cond_dec (fun h => by omega) fun _ => cond_dec (fun h => by omega) fun _ => cond_dec (fun h => by omega) fun _ => cond_dec (fun h => by omega) fun _ => cond_dec (fun h => by omega) fun _ => ?_)
  have : decide (x.clock > 1048576) = false := decide_eq_false (by omega)
  rw [this]
  unfold J32_1
  refine no (cond_dec (fun h => by omega) fun _ => ?_)
  have : decide (x.kind > 5) = false := decide_eq_false (by omega)
  rw [this]
  unfold J32_2
  have s1 : plain x.service = true := by
    have := hg.svc
    unfold svcs at this
    simp only [List.mem_cons, List.not_mem_nil, or_false] at this
    rcases this with e | e | e | e <;> rw [e] <;> decide
  have s2 : plain x.operation = true := by
    have := hg.op
    unfold opss at this
    simp only [List.mem_cons, List.not_mem_nil, or_false] at this
    rcases this with e | e | e <;> rw [e] <;> decide
  have l3 : J32_3 K x false := by
    unfold J32_3
    have h1 := hg.lo
    have h2 := hg.le
    have h3 := hg.hi
    refine no (cond_dec (fun h => ?_) fun _ => ?_)
    · split at h <;> omega
    · have : decide ((if x.end_ > x.start then x.end_ else x.start) > 1099511627776) = false := decide_eq_false (by split <;> omega)
      rw [this]
      unfold J32_4
      refine no (cond_dec (fun h => by omega) fun _ => cond_dec (fun h => ?_) fun _ => W56_tags hk.tags (W57_links hk.links (W55_zero h)))
      rw [w64_in (by omega) (by omega)] at h
      omega
  refine no (W54_yes s1 (cond_not (fun h => by cases h) fun _ => W54_yes s2 (cond_not (fun h => by cases h) fun _ => cond_dec (fun hne => ?_) fun _ => l3)))
  have s3 : plain x.version = true := by
    have := hg.ver
    unfold vers at this
    simp only [List.mem_cons, List.not_mem_nil, or_false] at this
    rcases this with e | e | e
    · rw [e]; decide
    · rw [e]; decide
    · exact absurd e hne
  exact W54_yes s3 l3

theorem traceId_in {s : TStory} (hw : s.wf) {k : Nat} {t : TTree} (ht : s.trees[k]? = some t) (hk : k < 3) : 1 ≤ traceId s k t ∧ traceId s k t ≤ 100000000 := by
  unfold traceId
  have := tmod_in (hw.trees t (mem_of_get ht)).slot.1 (show (0:Int) < 64 by omega)
  omega

theorem W30_story {s : TStory} (hw : s.wf) (hs : Short s) {l : List TTrace} (hl : StoryL s l) {K : Int → Prop} (h : K 0) : W30 l K := by
  unfold W30
  have hl3 := hl.len
  have no : ∀ {A B : Prop}, B → Cond false A B := fun hb => ⟨fun h => (by cases h), fun _ => hb⟩
  refine loop_idx l.length (fun i (v : Int × Int) => v.2 = (i : Int) ∧ 0 ≤ v.1 ∧ v.1 ≤ 8 * i) ⟨rfl, by simp, by simp⟩ ?_
  rintro i ⟨a, v⟩ N hi ⟨rfl, g1, g2⟩ hN
  dsimp only at g1 g2 ⊢
  unfold L30_1
  refine cond_dec (fun hlt => ?_) fun _ => cond_dec (fun hg => by omega) fun _ => h
  refine idx_nat (by omega) fun t ht => ?_
  obtain ⟨k, tr, hk, hid, hwt, hlen, hne, hsp⟩ := hl.all t (mem_of_get ht)
  have hk3 : k < 3 := by have := hs.trees; have := (List.getElem?_eq_some_iff.1 hk).1; omega
  have htid := traceId_in hw hk hk3
  have h8 := hsp.len
  refine cond_dec (fun h => by omega) fun _ => cond_dec (fun h => by omega) fun _ => cond_dec (fun h => by omega) fun _ => ?_
  have : decide (t.weight > 1024) = false := decide_eq_false (by omega)
  rw [this]
  have fin : J30_3 K t N a (i : Int) false := by
    unfold J30_3
    refine no (loop_idx t.spans.length (fun j v => v = (j : Int)) rfl ?_)
    rintro j v N' hj rfl hN'
    unfold L30_4
    refine cond_dec (fun hlt2 => ?_) fun hge => ?_
    · refine idx_nat (by omega) fun x hx => ?_
      have hxi := hsp.ids j x hx
      refine W32_ok (hsp.good x (mem_of_get hx)) (hsp.fine x (mem_of_get hx)) (by rw [hxi.1]; exact htid) (by rw [hxi.2]; omega) (cond_dec (fun hn => absurd rfl hn) fun _ => cond_dec (fun hn => absurd (by rw [hxi.1, hid]) hn) fun _ => ?_)
      have last : J30_5 K N' (j : Int) false := by
        unfold J30_5
        refine no ?_
        rw [w64_in (by omega) (by omega)]
        exact hN' _ (by omega) (by simp)
      refine cond_dec (fun hp => ?_) fun _ => last
      have e1 : w64 ((j : Int) - 1) = ((j - 1 : Nat) : Int) := by rw [w64_in (by omega) (by omega)]; omega
      rw [e1]
      refine idx_nat (by omega) fun y hy => ?_
      have hyi := hsp.ids _ y hy
      have : decide (x.id ≤ y.id) = false := decide_eq_false (by rw [hxi.2, hyi.2]; omega)
      rw [this]; exact last
    · have : j = t.spans.length := by omega
      rw [w64_in (n := (i : Int) + 1) (by omega) (by omega), w64_in (by omega) (by omega)]
      exact hN _ (by omega) ⟨by simp, by dsimp only; omega, by dsimp only; omega⟩
  unfold J30_2
  refine no (cond_dec (fun hp => ?_) fun _ => fin)
  have e1 : w64 ((i : Int) - 1) = ((i - 1 : Nat) : Int) := by rw [w64_in (by omega) (by omega)]; omega
  rw [e1]
  refine idx_nat (by omega) fun y hy => ?_
  have : decide (t.id ≤ y.id) = false := by
    refine decide_eq_false ?_
    have hyl := (List.getElem?_eq_some_iff.1 hy).1
    have htl := (List.getElem?_eq_some_iff.1 ht).1
    have := List.pairwise_iff_getElem.1 hl.sorted (i - 1) i hyl htl (by omega)
    rw [(List.getElem?_eq_some_iff.1 hy).2, (List.getElem?_eq_some_iff.1 ht).2] at this
    omega
  rw [this]; exact fin

end Go.Proofs.Ytnpdeecoejabgaa
