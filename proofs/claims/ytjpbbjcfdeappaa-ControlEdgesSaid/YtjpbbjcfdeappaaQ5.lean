/- Control artifacts: which may be, their texts, what a text reads. -/
import Derived.Test.YtjpbbjcfdeappaaPlB
import Derived.Test.YtjpbbjcfdeappaaQ4
import Derived.Test.YtjpbbjcfdeappaaAbt6
set_option linter.unusedVariables false
set_option linter.unusedSimpArgs false
set_option linter.unusedSectionVars false
set_option maxRecDepth 10000
namespace Go.Proofs.Ytjpbbjcfdeappaa.Ab
open Go Go.RowKit Go.Proofs.Ytjpbbjcfdeappaa.Given
theorem nameC_free {c : UInt8} (h : nameC c = true) : c ≠ 32 ∧ c ≠ 10 := by
  unfold nameC at h
  constructor <;> (intro e; subst e; revert h; decide)
theorem wordB_arg {s : List UInt8} (h : wordB s = true) : okArg s = true ∧ s.length ≤ 12 := by
  unfold wordB at h
  simp only [Bool.and_eq_true, List.all_eq_true, decide_eq_true_eq] at h
  refine ⟨okArg_iff.2 ⟨fun e => by rw [e] at h; simp at h, fun hm => (nameC_free (h.1 _ hm)).1 rfl, fun hm => (nameC_free (h.1 _ hm)).2 rfl⟩, h.2.2⟩
theorem isB_arg {s : List UInt8} (h : isB s = true) : okArg s = true ∧ s.length = 40 := by
  unfold isB at h
  simp only [Bool.and_eq_true, List.all_eq_true, decide_eq_true_eq] at h
  refine ⟨okArg_iff.2 ⟨fun e => by rw [e] at h; simp at h, fun hm => (hexB_ne (h.1 _ hm)).1 rfl, fun hm => (hexB_ne (h.1 _ hm)).2 rfl⟩, h.2⟩
theorem decS_arg {n : Int} (h0 : 0 ≤ n) (h1 : n ≤ 1073741824) : okArg (decS n) = true := by
  refine okArg_iff.2 ⟨?_, (decS_free n).1, (decS_free n).2⟩
  unfold decS
  rw [if_pos ⟨h0, h1⟩]
  intro e
  have := decN_pos n.toNat
  rw [e] at this
  simp at this
/-- What is known of a right tag. -/
structure OkT (own : Bool) (t : DTag) : Prop where
  kind : t.1 = 43 ∨ t.1 = 42 ∨ t.1 = 45
  name : okArg t.2.1 = true
  nlen : t.2.1.length ≤ 12
  target : okArg t.2.2.1 = true
  tlen : t.2.2.1.length ≤ 40
  vlen : t.2.2.2.1.length ≤ 12
theorem okTag_ok {own : Bool} {t : DTag} (h : okTag own t = true) : OkT own t := by
  unfold okTag okKind at h
  simp only [Bool.and_eq_true, Bool.or_eq_true, decide_eq_true_eq] at h
  obtain ⟨h1, h2, h3, h4⟩ := h
  obtain ⟨n1, n2⟩ := wordB_arg h2
  have htar : okArg t.2.2.1 = true ∧ t.2.2.1.length ≤ 40 := by
    cases own with
    | true =>
      have h4 : t.2.2.1 = [42] := by simpa using h4
      rw [h4]
      exact ⟨by decide, by decide⟩
    | false =>
      have h4 : isB t.2.2.1 = true := h4
      have := isB_arg h4
      exact ⟨this.1, by omega⟩
  exact ⟨by rcases h1 with h | h | h; exact Or.inl h; exact Or.inr (Or.inl h); exact Or.inr (Or.inr h.1), n1, n2, htar.1, htar.2, h3⟩
theorem okTags_mem {own : Bool} : ∀ {l : List DTag} {p : Option DTag}, okTags own p l = true → ∀ t ∈ l, OkT own t := by
  intro l
  induction l with
  | nil => intro p _ t ht; cases ht
  | cons x l ih =>
    intro p h t ht
    rw [okTags] at h
    simp only [Bool.and_eq_true] at h
    cases ht with
    | head => exact okTag_ok h.1
    | tail _ ht => exact ih h.2.2 t ht
theorem OkT.range {own : Bool} {t : DTag} (h : OkT own t) : 0 ≤ t.1 ∧ t.1 < 256 ∧ t.2.1 ≠ [] := by
  refine ⟨?_, ?_, (okArg_iff.1 h.name).1⟩ <;> (rcases h.kind with e | e | e <;> omega)
theorem OkT.card {own : Bool} {t : DTag} (h : OkT own t) : OkC (tagCard t) ∧ (tagCard t).2.1.length ≤ 3 ∧ ∀ a ∈ (tagCard t).2.1, a.length ≤ 40 := by
  obtain ⟨n1, n2, n3⟩ := okArg_iff.1 h.name
  have hk : okArg (UInt8.ofNat t.1.toNat :: t.2.1) = true := by
    refine okArg_iff.2 ⟨by simp, ?_, ?_⟩
    · intro hm
      rcases List.mem_cons.1 hm with e | hm
      · rcases h.kind with k | k | k <;> (rw [k] at e; revert e; decide)
      · exact n2 hm
    · intro hm
      rcases List.mem_cons.1 hm with e | hm
      · rcases h.kind with k | k | k <;> (rw [k] at e; revert e; decide)
      · exact n3 hm
  have hl : (UInt8.ofNat t.1.toNat :: t.2.1).length ≤ 40 := by have := h.nlen; simp only [List.length_cons]; omega
  by_cases hv : t.2.2.2.1 = []
  · have e : (tagCard t).2.1 = [UInt8.ofNat t.1.toNat :: t.2.1, t.2.2.1] := tagArgs_nil hv
    refine ⟨⟨by show (65 : Int) ≤ 84; decide, by show (84 : Int) ≤ 89; decide, fun a ha => ?_⟩, by rw [e]; simp, fun a ha => ?_⟩
    · rw [e] at ha
      simp only [List.mem_cons, List.not_mem_nil, or_false] at ha
      rcases ha with rfl | rfl
      · exact hk
      · exact h.target
    · rw [e] at ha
      simp only [List.mem_cons, List.not_mem_nil, or_false] at ha
      rcases ha with rfl | rfl
      · exact hl
      · exact h.tlen
  · have e : (tagCard t).2.1 = [UInt8.ofNat t.1.toNat :: t.2.1, t.2.2.1] ++ [escS t.2.2.2.1] := tagArgs_ne hv
    have he : okArg (escS t.2.2.2.1) = true := by
      refine okArg_iff.2 ⟨?_, (escS_free _).1, (escS_free _).2⟩
      intro e
      have := unesc_escS t.2.2.2.1
      rw [e] at this
      have h0 : unesc [] = some [] := by simp [unesc]
      rw [h0] at this
      exact hv (Option.some.inj this).symm
    refine ⟨⟨by show (65 : Int) ≤ 84; decide, by show (84 : Int) ≤ 89; decide, fun a ha => ?_⟩, by rw [e]; simp, fun a ha => ?_⟩
    · rw [e] at ha
      simp only [List.mem_append, List.mem_cons, List.not_mem_nil, or_false] at ha
      rcases ha with (rfl | rfl) | rfl
      · exact hk
      · exact h.target
      · exact he
    · rw [e] at ha
      simp only [List.mem_append, List.mem_cons, List.not_mem_nil, or_false] at ha
      rcases ha with (rfl | rfl) | rfl
      · exact hl
      · exact h.tlen
      · have := escS_len t.2.2.2.1; have := h.vlen; omega
theorem rightT_mem {own : Bool} {l : List DTag} (h : rightT own l = true) : l.length ≤ 12 ∧ ∀ t ∈ l, OkT own t := by
  unfold rightT at h
  simp only [Bool.and_eq_true, decide_eq_true_eq] at h
  exact ⟨h.2, okTags_mem h.1⟩
/-! ### The cards of a control artifact -/
instance : DecidableEq DTag := inferInstance
set_option synthInstance.maxSize 1000 in
instance : DecidableEq DCtl := inferInstance
def ctlCards (c : DCtl) : List DCard := ((68, [decS c.1], ()) :: c.2.1.map tagCard) ++ [(85, [c.2.2.1], ())]
noncomputable def ctlS (c : DCtl) : List UInt8 := sealS (bodyS (ctlCards c))
structure OkCtl (c : DCtl) : Prop where
  d0 : 0 ≤ c.1
  d1 : c.1 ≤ 1073741824
  some : 0 < c.2.1.length
  tlen : c.2.1.length ≤ 12
  tags : ∀ t ∈ c.2.1, OkT false t
  user : okArg c.2.2.1 = true
  ulen : c.2.2.1.length ≤ 12
theorem rightC_ok {c : DCtl} (h : rightC c = true) : OkCtl c := by
  unfold rightC at h
  simp only [Bool.and_eq_true, decide_eq_true_eq] at h
  obtain ⟨⟨h1, h2⟩, h3, h4, h5⟩ := h
  obtain ⟨h6, h7⟩ := rightT_mem h4
  obtain ⟨h8, h9⟩ := wordB_arg h5
  exact ⟨h1, h2, h3, h6, h7, h8, h9⟩
theorem ctl_mem {c : DCtl} {x : DCard} (h : x ∈ ctlCards c) : x = (68, [decS c.1], ()) ∨ (∃ t ∈ c.2.1, x = tagCard t) ∨ x = (85, [c.2.2.1], ()) := by
  unfold ctlCards at h
  rcases List.mem_append.1 h with h | h
  · cases h with
    | head => exact Or.inl rfl
    | tail _ h =>
      obtain ⟨t, ht, rfl⟩ := List.mem_map.1 h
      exact Or.inr (Or.inl ⟨t, ht, rfl⟩)
  · simp only [List.mem_cons, List.not_mem_nil, or_false] at h
    exact Or.inr (Or.inr h)
theorem ctl_right {c : DCtl} (h : OkCtl c) : rightB (ctlCards c) = true ∧ (bodyS (ctlCards c)).length ≤ 1750 := by
  have hok : ∀ x ∈ ctlCards c, OkC x ∧ x.2.1.length ≤ 3 ∧ ∀ a ∈ x.2.1, a.length ≤ 40 := by
    intro x hx
    rcases ctl_mem hx with rfl | ⟨t, ht, rfl⟩ | rfl
    · refine ⟨⟨by show (65 : Int) ≤ 68; decide, by show (68 : Int) ≤ 89; decide, fun a ha => ?_⟩, by simp, fun a ha => ?_⟩
      · simp only [List.mem_cons, List.not_mem_nil, or_false] at ha; subst ha; exact decS_arg h.d0 h.d1
      · simp only [List.mem_cons, List.not_mem_nil, or_false] at ha; subst ha; have := decS_len c.1; omega
    · exact (h.tags t ht).card
    · refine ⟨⟨by show (65 : Int) ≤ 85; decide, by show (85 : Int) ≤ 89; decide, fun a ha => ?_⟩, by simp, fun a ha => ?_⟩
      · simp only [List.mem_cons, List.not_mem_nil, or_false] at ha; subst ha; exact h.user
      · simp only [List.mem_cons, List.not_mem_nil, or_false] at ha; subst ha; have := h.ulen; omega
  have hlen : (ctlCards c).length = c.2.1.length + 2 := by simp [ctlCards]
  constructor
  · unfold rightB
    rw [okRow_of (fun x hx => (hok x hx).1) ?_ (fun x hx => rfl), decide_eq_true (by rw [hlen]; omega)]
    · rfl
    · unfold ctlCards
      refine List.pairwise_append.2 ⟨List.pairwise_cons.2 ⟨fun x hx => ?_, ?_⟩, by simp, fun x hx y hy => ?_⟩
      · obtain ⟨t, ht, rfl⟩ := List.mem_map.1 hx; show (68 : Int) ≤ 84; decide
      · refine List.pairwise_map.2 (List.Pairwise.imp (R := fun _ _ => True) (fun _ => ?_) ?_)
        · show (84 : Int) ≤ 84; decide
        · exact List.pairwise_of_forall fun _ _ => trivial
      · simp only [List.mem_cons, List.not_mem_nil, or_false] at hy
        subst hy
        cases hx with
        | head => show (68 : Int) ≤ 85; decide
        | tail _ hx => obtain ⟨t, ht, rfl⟩ := List.mem_map.1 hx; show (84 : Int) ≤ 85; decide
  · have := body_le 125 (ctlCards c) fun x hx => line_le (k := 3) (m := 40) (hok x hx).2.1 (hok x hx).2.2
    have := h.tlen
    have : (ctlCards c).length * 125 ≤ 14 * 125 := Nat.mul_le_mul_right _ (by omega)
    omega
theorem ctlS_len {c : DCtl} (h : OkCtl c) : (ctlS c).length ≤ 1800 ∧ ctlS c ≠ [] := by
  have := (ctl_right h).2
  unfold ctlS sealS
  refine ⟨by simp only [List.length_append, List.length_cons, List.length_nil, sumS_len]; omega, by simp⟩
theorem ctl_printS {c : DCtl} (h : OkCtl c) : printS (ctlCards c) = ctlS c := by unfold printS; rw [(ctl_right h).1]; rfl
section
variable {K : Nat} (hK : 1000000 ≤ K) (hK2 : K < 4611686018427387904)
include hK hK2
/-- Is a control artifact short enough for the fuel? -/
def FitsC (K : Nat) (c : DCtl) : Prop := c.2.1.length < K ∧ (∀ t ∈ c.2.1, t.2.1.length < K ∧ t.2.2.1.length < K) ∧ c.2.2.1.length < K
omit hK2 in
theorem OkCtl.fits {c : DCtl} (h : OkCtl c) : FitsC K c := by
  refine ⟨by have := h.tlen; omega, fun t ht => ?_, by have := h.ulen; omega⟩
  have := (h.tags t ht).nlen
  have := (h.tags t ht).tlen
  omega
theorem rightC_eq {c : DCtl} (h : FitsC K c) : control_Right.f K ((c, ()) : DCtl × Unit) = some (rightC c) := by
  rw [control_Right.eq, rightTags_eq hK hK2 false h.2.1 h.1, word_eq h.2.2 (by have := h.2.2; omega)]
  unfold rightC
  have e : ((0 : Int) < (c.2.1.length : Int)) ↔ 0 < c.2.1.length := by omega
  simp only [e, Option.bind_some]
  by_cases h1 : 0 ≤ c.1
  · by_cases h2 : c.1 ≤ 1073741824
    · by_cases h3 : 0 < c.2.1.length
      · cases rightT false c.2.1 <;> simp [h1, h2, h3]
      · simp [h1, h2, h3]
    · simp [h1, h2]
  · simp [h1]
theorem rrightC_eq {c : DCtl} (h : FitsC K c) : ammoniteref10_RightControl.f K ((c, ()) : DCtl × Unit) = some (rightC c) := by
  rw [ammoniteref10_RightControl.eq, rightOps_eq hK hK2 false h.2.1 h.1, rword_eq h.2.2 (by have := h.2.2; omega)]
  unfold rightC
  have e : ((1 : Int) ≤ (c.2.1.length : Int)) ↔ 0 < c.2.1.length := by omega
  simp only [e, Option.bind_some]
  by_cases h1 : 0 ≤ c.1
  · by_cases h2 : c.1 ≤ 1073741824
    · cases wordB c.2.2.1
      · simp [h1, h2]
      · by_cases h3 : 0 < c.2.1.length
        · simp [h1, h2, h3]
        · simp [h1, h2, h3]
    · simp [h1, h2]
  · simp [h1]
theorem ctlPrint_eq {c : DCtl} (h : FitsC K c) : control_Print.f K ((c, ()) : DCtl × Unit) = some (if rightC c = true then ctlS c else []) := by
  rw [control_Print.eq, show (c.1, c.2.1, c.2.2.1, ()) = c from rfl, rightC_eq hK hK2 h, Option.bind_some]
  cases hr : rightC c with
  | false => rfl
  | true =>
    have ho := rightC_ok hr
    have hm := fun t (ht : t ∈ c.2.1) => ho.tags t ht
    rw [Bool.not_true, cond_false, dec_eq hK, Option.bind_some, tagCards_eq hK (by have := ho.tlen; omega) (fun t ht => ⟨by have := (hm t ht).nlen; omega, by have := (hm t ht).vlen; omega⟩), Option.bind_some]
    have hl : (c.2.1.map tagCard).length ≤ 12 := by simp; exact ho.tlen
    rw [growOk_t (by omega) (by simp only [List.length_cons, List.length_nil]; omega), chks_t, chks_nil, growOk_t (by omega) (by simp only [List.length_append, List.length_cons, List.length_nil]; omega), chks_t, chks_nil, if_pos rfl, ← ctl_printS ho]
    have := print_eq hK (l := ctlCards c) (by have := (ctl_right ho).2; omega)
    have e : ([((68 : Int), [decS c.1], ())] ++ c.2.1.map tagCard) ++ [((85 : Int), [c.2.2.1], ())] = ctlCards c := rfl
    rw [e, this]
    rfl
theorem rctl_eq {c : DCtl} (ho : OkCtl c) : ammoniteref10_Control.f K ((c, ()) : DCtl × Unit) = some (ctlS c) := by
  have hm := fun t (ht : t ∈ c.2.1) => ho.tags t ht
  have hl : (c.2.1.map tagCard).length ≤ 12 := by simp; exact ho.tlen
  rw [ammoniteref10_Control.eq, rdec_eq hK, Option.bind_some, ops_eq hK (by have := ho.tlen; omega) (fun t ht => ⟨by have := (hm t ht).nlen; omega, by have := (hm t ht).vlen; omega⟩), Option.bind_some]
  rw [growOk_t (by omega) (by simp only [List.length_cons, List.length_nil]; omega), chks_t, chks_nil, growOk_t (by omega) (by simp only [List.length_append, List.length_cons, List.length_nil]; omega), chks_t, chks_nil]
  have := rprint_eq hK (l := ctlCards c) (by have := (ctl_right ho).2; omega)
  have e : ([((68 : Int), [decS c.1], ())] ++ c.2.1.map tagCard) ++ [((85 : Int), [c.2.2.1], ())] = ctlCards c := rfl
  rw [e, this]
  rfl
theorem sameC_eq {a b : DCtl} (h : a.2.1.length < K) : control_Same.f K ((a, b, ()) : DCtl × DCtl × Unit) = some (decide (a = b)) := by
  have _hK := hK
  rw [control_Same.eq, equalT_eq h hK2]
  obtain ⟨a1, a2, a3, ⟨⟩⟩ := a
  obtain ⟨b1, b2, b3, ⟨⟩⟩ := b
  by_cases e1 : a1 = b1
  · by_cases e3 : a3 = b3
    · by_cases e2 : a2 = b2 <;> simp [e1, e2, e3]
    · simp [e1, e3]
  · simp [e1]
theorem controls_eq {a b : DCtl} (h : a.2.1.length < K) : ammonitekeep_Controls.f K ((a, b, ()) : DCtl × DCtl × Unit) = some (decide (a = b)) := by
  have _hK := hK
  rw [ammonitekeep_Controls.eq, sameT_eq h hK2]
  obtain ⟨a1, a2, a3, ⟨⟩⟩ := a
  obtain ⟨b1, b2, b3, ⟨⟩⟩ := b
  by_cases e1 : a1 = b1
  · by_cases e3 : a3 = b3
    · by_cases e2 : a2 = b2 <;> simp [e1, e2, e3]
    · simp [e1, e3]
  · simp [e1]
/-! ### What a text reads -/
abbrev zCtl : DCtl := (0, [], [], ())
/-- What a reading gives: a right artifact whose text it is, if there is one. -/
def ReadsC (s : List UInt8) (r : Option (DCtl × Bool × Unit)) (P : DCtl → Prop) : Prop :=
  ∃ c ok, r = some (c, ok, ()) ∧ (ok = true → rightC c = true ∧ ctlS c = s) ∧ (ok = false → c = zCtl) ∧ (∀ m, rightC m = true → ctlS m = s → P m → ok = true ∧ c = m)
theorem fin_eq {s : List UInt8} (hs : s ≠ []) {c : DCtl} (h : FitsC K c) :
    ReadsC s ((control_Print.f K ((c, ()) : DCtl × Unit)).bind fun v => bif (!(decide (v = s))) then some (zCtl, false, ()) else some (c, true, ())) (fun m => c = m) := by
  rw [ctlPrint_eq hK hK2 h, Option.bind_some]
  cases hr : rightC c with
  | false =>
    refine ⟨zCtl, false, ?_, (fun h => by cases h), fun _ => rfl, fun m h1 _ h2 => by rw [← h2, hr] at h1; cases h1⟩
    have : ¬ ([] : List UInt8) = s := fun e => hs e.symm
    simp [this]
  | true =>
    by_cases e : ctlS c = s
    · exact ⟨c, true, by simp [e], fun _ => ⟨hr, e⟩, (fun h => by cases h), fun m _ _ h => ⟨rfl, h⟩⟩
    · exact ⟨zCtl, false, by simp [e], (fun h => by cases h), fun _ => rfl, fun m _ h1 h2 => by rw [← h2] at h1; exact absurd h1 e⟩
/-- What is left of an artifact's cards: all, tags and a user, or nothing. -/
def Left (m : DCtl) (d : Int) (u : List UInt8) (r : List DCard) : Prop :=
  r = ctlCards m ∨ (d = m.1 ∧ ∃ ts : List DTag, r = ts.map tagCard ++ [(85, [m.2.2.1], ())]) ∨ (r = [] ∧ d = m.1 ∧ u = m.2.2.1)
theorem ctl_loop {s : List UInt8} (hs : s ≠ []) (l : List DCard) (hl : l.length < 1000000) (hb : ∀ c ∈ l, ∀ a ∈ c.2.1, a.length < 900000) (ts : List DTag) (hts : ts.length < K ∧ ∀ t ∈ ts, t.2.1.length < K ∧ t.2.2.1.length < K) (z0 : Int) (z1 : List UInt8) (t : Int) (ht : t = (l.length : Int)) :
    ∀ (r : List DCard) (k n : Nat) (d : Int) (u : List UInt8), l.drop k = r → k ≤ l.length → r.length < n → u.length < K →
    ReadsC s (control_Read.l10 K n s l t k z0 z1 d ts u) (fun m => ts = m.2.1 ∧ Left m d u r) := by
  subst ht
  intro r
  induction r with
  | nil =>
    intro k n d u hd hk hn hu
    have := drop_nil hd hk
    subst this
    obtain ⟨n, rfl⟩ : ∃ m, n = m + 1 := ⟨n - 1, by omega⟩
    rw [control_Read.l10_succ]
    simp only [Int.lt_irrefl, decide_false, cond_false]
    obtain ⟨c, ok, h1, h2, h3, h4⟩ := fin_eq hK hK2 hs (c := (d, ts, u, ())) ⟨hts.1, hts.2, hu⟩
    refine ⟨c, ok, h1, h2, h3, fun m m1 m2 m3 => h4 m m1 m2 ?_⟩
    obtain ⟨e1, e2⟩ := m3
    rcases e2 with e | ⟨_, us, e⟩ | ⟨_, e3, e4⟩
    · simp [ctlCards] at e
    · simp at e
    · rw [e1, e3, e4]
  | cons x r ih =>
    intro k n d u hd hk hn hu
    obtain ⟨n, rfl⟩ : ∃ m, n = m + 1 := ⟨n - 1, by omega⟩
    simp only [List.length_cons] at hn
    obtain ⟨hg, hlt, hd'⟩ := getD_drop (d := DTy.dflt (.prod (.int .u8) (.prod (.slice .str) .unit))) hd
    have hargs := hb x (List.mem_of_mem_drop (i := k) (by rw [hd]; exact List.mem_cons_self))
    have h1 : (k : Int) < (l.length : Int) := by omega
    have ihn := fun (d : Int) (u : List UInt8) (hu : u.length < K) => ih (k + 1) n d u hd' (by omega) (by omega) hu
    obtain ⟨letter, args, ⟨⟩⟩ := x
    rw [control_Read.l10_succ]
    simp only [h1, Int.natCast_nonneg, decide_true, cond_true, chks_t, chks_nil, Int.toNat_natCast, hg, wS (show k < 4611686018427387904 by omega)]
    match args, hargs with
    | [], _ =>
      simp only [List.length_nil, Int.natCast_zero, decide_true, cond_true]
      obtain ⟨c, ok, h1, h2, h3, h4⟩ := fin_eq hK hK2 hs (c := (d, ts, u, ())) ⟨hts.1, hts.2, hu⟩
      refine ⟨c, ok, h1, h2, h3, fun m m1 m2 m3 => ?_⟩
      exfalso
      rcases m3.2 with e | ⟨_, us, e⟩ | ⟨e, _⟩
      · simp [ctlCards] at e
      · cases us with
        | nil => simp at e
        | cons y us =>
          simp only [List.map_cons, List.cons_append, List.cons.injEq] at e
          have := congrArg (fun c : DCard => c.2.1.length) e.1
          simp [tagCard, tagArgs] at this
      · cases e
    | a :: ar, hargs =>
      have e0 : ¬ (((a :: ar : List (List UInt8)).length : Int) = 0) := by simp only [List.length_cons]; omega
      have e1 : (0 : Int) < ((a :: ar : List (List UInt8)).length : Int) := by simp only [List.length_cons]; omega
      have g0 : (a :: ar : List (List UInt8)).getD (Int.toNat 0) (DTy.dflt .str) = a := rfl
      have ha : a.length < 900000 := hargs a List.mem_cons_self
      simp only [e0, e1, g0, decide_true, decide_false, cond_false, chks_t, chks_nil]
      by_cases c68 : letter = 68
      · obtain ⟨v, okv, r1, r2, r3, r4⟩ := readdec_eq hK ha
        have hhead : ∀ m : DCtl, rightC m = true → Left m d u ((letter, a :: ar, ()) :: r) → okv = true ∧ v = m.1 ∧ ∃ us : List DTag, r = us.map tagCard ++ [(85, [m.2.2.1], ())] := by
          intro m m1 m3
          have ho := rightC_ok m1
          rcases m3 with e | ⟨_, us, e⟩ | ⟨e, _⟩
          · unfold ctlCards at e
            simp only [List.cons_append, List.cons.injEq, Prod.mk.injEq] at e
            obtain ⟨⟨_, ⟨e5, _⟩, _⟩, e6⟩ := e
            obtain ⟨q1, q2⟩ := r4 m.1 ho.d0 ho.d1 e5.symm
            exact ⟨q1, q2, m.2.1, e6⟩
          · exfalso
            cases us with
            | nil => simp only [List.map_nil, List.nil_append, List.cons.injEq, Prod.mk.injEq] at e; omega
            | cons y us =>
              simp only [List.map_cons, List.cons_append, List.cons.injEq] at e
              have := congrArg (fun c : DCard => c.1) e.1
              have : letter = 84 := this
              omega
          · cases e
        simp only [c68, decide_true, cond_true, r1, Option.bind_some]
        cases okv with
        | false =>
          simp only [Bool.not_false, cond_true]
          obtain ⟨c, ok, h1, h2, h3, h4⟩ := fin_eq hK hK2 hs (c := (v, ts, u, ())) ⟨hts.1, hts.2, hu⟩
          exact ⟨c, ok, h1, h2, h3, fun m m1 m2 m3 => by have := (hhead m m1 (by have := m3.2; rw [← c68] at this; exact this)).1; cases this⟩
        | true =>
          simp only [Bool.not_true, cond_false]
          obtain ⟨c, ok, h1, h2, h3, h4⟩ := ihn v u hu
          refine ⟨c, ok, h1, h2, h3, fun m m1 m2 m3 => h4 m m1 m2 ⟨m3.1, ?_⟩⟩
          obtain ⟨_, q2, q3⟩ := hhead m m1 (by have := m3.2; rw [← c68] at this; exact this)
          exact Or.inr (Or.inl ⟨q2, q3⟩)
      · by_cases c85 : letter = 85
        · simp only [c85, show ¬ ((85 : Int) = 68) by decide, decide_true, decide_false, cond_true, cond_false]
          obtain ⟨c, ok, h1, h2, h3, h4⟩ := ihn d a (by omega)
          refine ⟨c, ok, h1, h2, h3, fun m m1 m2 m3 => h4 m m1 m2 ⟨m3.1, ?_⟩⟩
          rcases m3.2 with e | ⟨e2, us, e⟩ | ⟨e, _⟩
          · exfalso
            unfold ctlCards at e
            simp only [List.cons_append, List.cons.injEq, Prod.mk.injEq] at e
            omega
          · cases us with
            | nil =>
              simp only [List.map_nil, List.nil_append, List.cons.injEq, Prod.mk.injEq] at e
              exact Or.inr (Or.inr ⟨e.2, e2, e.1.2.1.1⟩)
            | cons y us =>
              exfalso
              simp only [List.map_cons, List.cons_append, List.cons.injEq] at e
              have := congrArg (fun c : DCard => c.1) e.1
              have : (85 : Int) = 84 := this
              omega
          · cases e
        · simp only [c68, c85, decide_false, cond_false]
          obtain ⟨c, ok, h1, h2, h3, h4⟩ := ihn d u hu
          refine ⟨c, ok, h1, h2, h3, fun m m1 m2 m3 => h4 m m1 m2 ⟨m3.1, ?_⟩⟩
          rcases m3.2 with e | ⟨e2, us, e⟩ | ⟨e, _⟩
          · exfalso
            unfold ctlCards at e
            simp only [List.cons_append, List.cons.injEq, Prod.mk.injEq] at e
            exact c68 e.1.1
          · cases us with
            | nil =>
              exfalso
              simp only [List.map_nil, List.nil_append, List.cons.injEq, Prod.mk.injEq] at e
              exact c85 e.1.1
            | cons y us =>
              simp only [List.map_cons, List.cons_append, List.cons.injEq] at e
              exact Or.inr (Or.inl ⟨e2, us, e.2⟩)
          · cases e
theorem print_bounds {l : List DCard} {s : List UInt8} (hr : rightB l = true) (h : printS l = s) (hs : s.length < 300000) : s ≠ [] ∧ l.length < 300000 ∧ ∀ c ∈ l, ∀ a ∈ c.2.1, a.length < 300000 := by
  have _hK := hK2
  unfold printS at h
  rw [hr] at h
  have h : sealS (bodyS l) = s := h
  have e : s.length = (bodyS l).length + 43 := by rw [← h]; unfold sealS; simp only [List.length_append, List.length_cons, List.length_nil, sumS_len]
  have := body_len l
  refine ⟨fun x => by rw [x] at e; simp at e, by omega, fun c hc a ha => ?_⟩
  have := body_mem l c hc
  have := args_len c a ha
  omega
theorem ctlRead_eq {s : List UInt8} (hs : s.length < 300000) : ReadsC s (control_Read.f K ((s, ()) : List UInt8 × Unit)) (fun _ => True) := by
  obtain ⟨l, ok, h1, h2, h3, h4⟩ := read_eq hK hs
  have hm : ∀ m, rightC m = true → ctlS m = s → ok = true ∧ l = ctlCards m := fun m m1 m2 => by
    have ho := rightC_ok m1
    exact h4 (ctlCards m) (ctl_right ho).1 (by rw [ctl_printS ho]; exact m2)
  rw [control_Read.eq, h1, Option.bind_some]
  dsimp only
  cases ok with
  | false => exact ⟨zCtl, false, rfl, (fun h => by cases h), fun _ => rfl, fun m m1 m2 _ => by have := (hm m m1 m2).1; cases this⟩
  | true =>
    obtain ⟨hr, hp⟩ := h2 rfl
    obtain ⟨b1, b2, b3⟩ := print_bounds hK hK2 hr hp hs
    rw [readTags_eq hK (l := l) (by omega) (fun c hc a ha => by have := b3 c hc a ha; omega)]
    simp only [Option.bind_some, Bool.not_true, cond_false]
    cases ht : tagsOf (argsT l) with
    | none =>
      refine ⟨zCtl, false, rfl, (fun h => by cases h), fun _ => rfl, fun m m1 m2 _ => ?_⟩
      exfalso
      have ho := rightC_ok m1
      have e := (hm m m1 m2).2
      have : argsT l = m.2.1.map tagArgs := by
        rw [e]
        unfold ctlCards
        rw [argsT_app, argsT_no _ (by show ¬ (68 : Int) = 84; decide), argsT_cards, argsT_no _ (by show ¬ (85 : Int) = 84; decide)]
        simp [argsT]
      rw [this, tagsOf_args fun t ht => (ho.tags t ht).range] at ht
      cases ht
    | some ts =>
      have hal : (argsT l).length ≤ l.length := by unfold argsT; rw [List.length_map]; exact List.length_filter_le _ _
      obtain ⟨t1, t2⟩ := tagsOf_len (m := 300000) ht fun a ha x hx => by
        obtain ⟨c, c1, -, c2⟩ := argsT_mem ha
        have := b3 c c1 x (by rw [c2]; exact hx)
        omega
      have := ctl_loop hK hK2 b1 l (by omega) (fun c hc a ha => by have := b3 c hc a ha; omega) ts ⟨by omega, fun t ht => by have := t2 t ht; omega⟩ 0 [] _ rfl l 0 K 0 [] rfl (Nat.zero_le _) (by omega) (by simp; omega)
      obtain ⟨c, ok, k1, k2, k3, k4⟩ := this
      refine ⟨c, ok, k1, k2, k3, fun m m1 m2 _ => k4 m m1 m2 ⟨?_, Or.inl (hm m m1 m2).2⟩⟩
      have ho := rightC_ok m1
      have e := (hm m m1 m2).2
      have : argsT l = m.2.1.map tagArgs := by
        rw [e]
        unfold ctlCards
        rw [argsT_app, argsT_no _ (by show ¬ (68 : Int) = 84; decide), argsT_cards, argsT_no _ (by show ¬ (85 : Int) = 84; decide)]
        simp [argsT]
      rw [this, tagsOf_args fun t ht => (ho.tags t ht).range] at ht
      exact (Option.some.inj ht).symm
/-- A right artifact's text reads it. -/
theorem ctlBack {c : DCtl} (h : rightC c = true) : control_Read.f K ((ctlS c, ()) : List UInt8 × Unit) = some (c, true, ()) := by
  have ho := rightC_ok h
  obtain ⟨x, ok, h1, h2, h3, h4⟩ := ctlRead_eq hK hK2 (s := ctlS c) (by have := (ctlS_len ho).1; omega)
  obtain ⟨e1, e2⟩ := h4 c h rfl trivial
  rw [h1, e1, e2]
theorem ctlS_inj {a b : DCtl} (ha : rightC a = true) (hb : rightC b = true) (h : ctlS a = ctlS b) : a = b := by
  have h1 := ctlBack hK hK2 ha
  rw [h, ctlBack hK hK2 hb] at h1
  simp only [Option.some.injEq, Prod.mk.injEq] at h1
  exact h1.1.symm
end
end Go.Proofs.Ytjpbbjcfdeappaa.Ab
