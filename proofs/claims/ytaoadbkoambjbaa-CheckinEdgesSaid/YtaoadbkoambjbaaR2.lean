/- Check-ins: their cards, their texts, which are alike. -/
import Derived.Test.YtaoadbkoambjbaaR1
set_option linter.unusedVariables false
set_option linter.unusedSimpArgs false
set_option linter.unusedSectionVars false
set_option maxRecDepth 10000
namespace Go.Proofs.Ytaoadbkoambjbaa.Ab
open Go Go.RowKit Go.Proofs.Ytaoadbkoambjbaa.Given
def fileCard (f : DFile) : DCard := (70, if f.2.1 = [] then [f.1] else [f.1, f.2.1], ())
def baseCards (b : List UInt8) : List DCard := if b = [] then [] else [(66, [b], ())]
def parCards (l : List (List UInt8)) : List DCard := if l = [] then [] else [(80, l, ())]
def headCards (c : DChk) : List DCard := [(67, [[46] ++ escS c.2.1], ()), (68, [decS c.2.2.1], ())]
def chkCards (c : DChk) : List DCard := ((baseCards c.1 ++ headCards c) ++ c.2.2.2.1.map fileCard ++ parCards c.2.2.2.2.1) ++ c.2.2.2.2.2.1.map tagCard ++ [(85, [c.2.2.2.2.2.2.1], ())]
noncomputable def chkS (c : DChk) : List UInt8 := sealS (bodyS (chkCards c))
structure OkChk (c : DChk) : Prop where
  base : c.1 = [] ∨ (okArg c.1 = true ∧ c.1.length = 40)
  clen : c.2.1.length ≤ 40
  d0 : 0 ≤ c.2.2.1
  d1 : c.2.2.1 ≤ 1073741824
  flen : c.2.2.2.1.length ≤ 12
  files : ∀ f ∈ c.2.2.2.1, okArg f.1 = true ∧ f.1.length ≤ 12 ∧ (f.2.1 = [] ∨ (okArg f.2.1 = true ∧ f.2.1.length = 40))
  plen : c.2.2.2.2.1.length ≤ 3
  pars : ∀ s ∈ c.2.2.2.2.1, okArg s = true ∧ s.length = 40
  tlen : c.2.2.2.2.2.1.length ≤ 12
  tags : ∀ t ∈ c.2.2.2.2.2.1, OkT true t
  user : okArg c.2.2.2.2.2.2.1 = true
  ulen : c.2.2.2.2.2.2.1.length ≤ 12
theorem okFiles_mem {w : Bool} : ∀ {l : List DFile} {p : Option DFile}, okFiles w p l = true → ∀ f ∈ l, okFile w f = true := by
  intro l
  induction l with
  | nil => intro p _ f hf; cases hf
  | cons x l ih =>
    intro p h f hf
    rw [okFiles] at h
    simp only [Bool.and_eq_true] at h
    cases hf with
    | head => exact h.1
    | tail _ hf => exact ih h.2.2 f hf
theorem okNames_mem : ∀ {l pre : List (List UInt8)}, okNames pre l = true → ∀ s ∈ l, isB s = true := by
  intro l
  induction l with
  | nil => intro p _ f hf; cases hf
  | cons x l ih =>
    intro p h f hf
    rw [okNames] at h
    simp only [Bool.and_eq_true] at h
    cases hf with
    | head => exact h.1
    | tail _ hf => exact ih h.2.2 f hf
theorem rightK_ok {c : DChk} (h : rightK c = true) : OkChk c := by
  unfold rightK at h
  simp only [Bool.and_eq_true, Bool.or_eq_true, decide_eq_true_eq] at h
  obtain ⟨h1, h2, ⟨h3, h4⟩, ⟨h5, h6⟩, ⟨h7, h8⟩, h9, h10⟩ := h
  obtain ⟨t1, t2⟩ := rightT_mem h9
  obtain ⟨u1, u2⟩ := wordB_arg h10
  refine ⟨by rcases h1 with h | h; exact Or.inl h; exact Or.inr (isB_arg h), h2, h3, h4, h6, fun f hf => ?_, h8, fun s hs => isB_arg (okNames_mem h7 s hs), t1, t2, u1, u2⟩
  have := okFiles_mem h5 f hf
  unfold okFile at this
  simp only [Bool.and_eq_true, Bool.or_eq_true, decide_eq_true_eq] at this
  obtain ⟨w1, w2⟩ := wordB_arg this.1
  refine ⟨w1, w2, ?_⟩
  rcases this.2 with h | h
  · exact Or.inr (isB_arg h)
  · exact Or.inl h.2
theorem chk_mem {c : DChk} {x : DCard} (h : x ∈ chkCards c) : (c.1 ≠ [] ∧ x = (66, [c.1], ())) ∨ x = (67, [[46] ++ escS c.2.1], ()) ∨ x = (68, [decS c.2.2.1], ()) ∨ (∃ f ∈ c.2.2.2.1, x = fileCard f) ∨ (c.2.2.2.2.1 ≠ [] ∧ x = (80, c.2.2.2.2.1, ())) ∨ (∃ t ∈ c.2.2.2.2.2.1, x = tagCard t) ∨ x = (85, [c.2.2.2.2.2.2.1], ()) := by
  unfold chkCards baseCards headCards parCards at h
  simp only [List.mem_append, List.mem_map, List.mem_cons, List.not_mem_nil, or_false] at h
  rcases h with (((((h | h) | h) | h) | h) | h)
  · by_cases e : c.1 = []
    · rw [if_pos e] at h; cases h
    · rw [if_neg e] at h; simp at h; exact Or.inl ⟨e, h⟩
  · rcases h with h | h
    · exact Or.inr (Or.inl h)
    · exact Or.inr (Or.inr (Or.inl h))
  · obtain ⟨f, hf, rfl⟩ := h; exact Or.inr (Or.inr (Or.inr (Or.inl ⟨f, hf, rfl⟩)))
  · by_cases e : c.2.2.2.2.1 = []
    · rw [if_pos e] at h; cases h
    · rw [if_neg e] at h; simp at h; exact Or.inr (Or.inr (Or.inr (Or.inr (Or.inl ⟨e, h⟩))))
  · obtain ⟨t, ht, rfl⟩ := h; exact Or.inr (Or.inr (Or.inr (Or.inr (Or.inr (Or.inl ⟨t, ht, rfl⟩)))))
  · exact Or.inr (Or.inr (Or.inr (Or.inr (Or.inr (Or.inr h)))))
theorem rising_app {l m : List DCard} {k : Int} (hl : l.Pairwise fun a b => a.1 ≤ b.1) (hm : m.Pairwise fun a b => a.1 ≤ b.1) (h1 : ∀ a ∈ l, a.1 ≤ k) (h2 : ∀ b ∈ m, k ≤ b.1) : (l ++ m).Pairwise fun a b => a.1 ≤ b.1 :=
  List.pairwise_append.2 ⟨hl, hm, fun a ha b hb => Int.le_trans (h1 a ha) (h2 b hb)⟩
theorem rising_map {α : Type} (f : α → DCard) (k : Int) (hf : ∀ a, (f a).1 = k) (l : List α) : (l.map f).Pairwise fun a b => a.1 ≤ b.1 := by
  refine List.pairwise_map.2 (List.pairwise_of_forall fun a b => ?_)
  rw [hf, hf]
  exact Int.le_refl k
theorem chk_rising (c : DChk) : (chkCards c).Pairwise fun a b => a.1 ≤ b.1 := by
  have hb : ∀ x ∈ baseCards c.1, x.1 = 66 := by unfold baseCards; intro x hx; split at hx; cases hx; simp at hx; rw [hx]
  have hh : ∀ x ∈ headCards c, 67 ≤ x.1 ∧ x.1 ≤ 68 := by intro x hx; simp [headCards] at hx; rcases hx with rfl | rfl; exact ⟨Int.le_refl _, by show (67 : Int) ≤ 68; decide⟩; exact ⟨by show (67 : Int) ≤ 68; decide, Int.le_refl _⟩
  have hf : ∀ x ∈ c.2.2.2.1.map fileCard, x.1 = 70 := by intro x hx; obtain ⟨f, _, rfl⟩ := List.mem_map.1 hx; rfl
  have hp : ∀ x ∈ parCards c.2.2.2.2.1, x.1 = 80 := by unfold parCards; intro x hx; split at hx; cases hx; simp at hx; rw [hx]
  have ht : ∀ x ∈ c.2.2.2.2.2.1.map tagCard, x.1 = 84 := by intro x hx; obtain ⟨f, _, rfl⟩ := List.mem_map.1 hx; rfl
  unfold chkCards
  refine rising_app (k := 84) (rising_app (k := 80) (rising_app (k := 70) (rising_app (k := 68) (rising_app (k := 66) ?_ ?_ ?_ ?_) ?_ ?_ ?_) ?_ ?_ ?_) ?_ ?_ ?_) (by simp) ?_ ?_
  · unfold baseCards; split <;> simp
  · unfold headCards; simp
  · intro a ha; rw [hb a ha]; decide
  · intro a ha; have := hh a ha; omega
  · exact rising_map fileCard 70 (fun _ => rfl) _
  · intro a ha
    rcases List.mem_append.1 ha with h | h
    · rw [hb a h]; decide
    · have := hh a h; omega
  · intro a ha; rw [hf a ha]; decide
  · unfold parCards; split <;> simp
  · intro a ha
    simp only [List.mem_append] at ha
    rcases ha with (h | h) | h
    · rw [hb a h]; decide
    · have := hh a h; omega
    · rw [hf a h]; decide
  · intro a ha; rw [hp a ha]; decide
  · exact rising_map tagCard 84 (fun _ => rfl) _
  · intro a ha
    simp only [List.mem_append] at ha
    rcases ha with ((h | h) | h) | h
    · rw [hb a h]; decide
    · have := hh a h; omega
    · rw [hf a h]; decide
    · rw [hp a h]; decide
  · intro a ha; rw [ht a ha]; decide
  · intro a ha
    simp only [List.mem_append] at ha
    rcases ha with (((h | h) | h) | h) | h
    · rw [hb a h]; decide
    · have := hh a h; omega
    · rw [hf a h]; decide
    · rw [hp a h]; decide
    · rw [ht a h]; decide
  · intro a ha; simp at ha; rw [ha]; show (84 : Int) ≤ 85; decide
theorem chk_cardok {c : DChk} (h : OkChk c) : ∀ x ∈ chkCards c, OkC x ∧ x.2.1.length ≤ 3 ∧ ∀ a ∈ x.2.1, a.length ≤ 81 := by
  have mk : ∀ (k : Int) (args : List (List UInt8)), 65 ≤ k → k ≤ 89 → args.length ≤ 3 → (∀ a ∈ args, okArg a = true ∧ a.length ≤ 81) → OkC ((k, args, ()) : DCard) ∧ ((k, args, ()) : DCard).2.1.length ≤ 3 ∧ ∀ a ∈ ((k, args, ()) : DCard).2.1, a.length ≤ 81 :=
    fun k args h1 h2 h3 h4 => ⟨⟨h1, h2, fun a ha => (h4 a ha).1⟩, h3, fun a ha => (h4 a ha).2⟩
  have one : ∀ (k : Int) (s : List UInt8), 65 ≤ k → k ≤ 89 → okArg s = true → s.length ≤ 81 → OkC ((k, [s], ()) : DCard) ∧ ((k, [s], ()) : DCard).2.1.length ≤ 3 ∧ ∀ a ∈ ((k, [s], ()) : DCard).2.1, a.length ≤ 81 :=
    fun k s h1 h2 h3 h4 => mk k [s] h1 h2 (by simp) fun a ha => by simp at ha; rw [ha]; exact ⟨h3, h4⟩
  intro x hx
  rcases chk_mem hx with ⟨e, rfl⟩ | rfl | rfl | ⟨f, hf, rfl⟩ | ⟨e, rfl⟩ | ⟨t, ht, rfl⟩ | rfl
  · rcases h.base with e2 | ⟨e2, e3⟩
    · exact absurd e2 e
    · exact one 66 _ (by decide) (by decide) e2 (by omega)
  · refine one 67 _ (by decide) (by decide) (okArg_iff.2 ⟨by simp, ?_, ?_⟩) ?_
    · have := (escS_free c.2.1).1; simpa using this
    · have := (escS_free c.2.1).2; simpa using this
    · have := escS_len c.2.1; have := h.clen; simp only [List.length_append, List.length_cons, List.length_nil]; omega
  · exact one 68 _ (by decide) (by decide) (decS_arg h.d0 h.d1) (by have := decS_len c.2.2.1; omega)
  · obtain ⟨f1, f2, f3⟩ := h.files f hf
    refine mk 70 _ (by decide) (by decide) (by split <;> simp) fun a ha => ?_
    by_cases e : f.2.1 = []
    · rw [if_pos e] at ha; simp at ha; rw [ha]; exact ⟨f1, by omega⟩
    · rw [if_neg e] at ha
      simp at ha
      rcases ha with rfl | rfl
      · exact ⟨f1, by omega⟩
      · rcases f3 with e2 | ⟨e2, e3⟩
        · exact absurd e2 e
        · exact ⟨e2, by omega⟩
  · exact mk 80 _ (by decide) (by decide) h.plen fun a ha => ⟨(h.pars a ha).1, by have := (h.pars a ha).2; omega⟩
  · obtain ⟨h1, h2, h3⟩ := (h.tags t ht).card
    exact ⟨h1, h2, fun a ha => by have := h3 a ha; omega⟩
  · exact one 85 _ (by decide) (by decide) h.user (by have := h.ulen; omega)
theorem chkCards_len (c : DChk) : (chkCards c).length ≤ c.2.2.2.1.length + c.2.2.2.2.2.1.length + 5 := by
  have h1 : (baseCards c.1).length ≤ 1 := by unfold baseCards; split <;> simp
  have h2 : (parCards c.2.2.2.2.1).length ≤ 1 := by unfold parCards; split <;> simp
  simp only [chkCards, headCards, List.length_append, List.length_map, List.length_cons, List.length_nil]
  omega
theorem chk_right {c : DChk} (h : OkChk c) : rightB (chkCards c) = true ∧ (bodyS (chkCards c)).length ≤ 7192 := by
  have hok := chk_cardok h
  constructor
  · unfold rightB
    rw [okRow_of (fun x hx => (hok x hx).1) (chk_rising c) (fun x hx => rfl)]
    have : 0 < (chkCards c).length := by simp [chkCards]; omega
    rw [decide_eq_true this]
    rfl
  · have := body_le 248 (chkCards c) fun x hx => line_le (k := 3) (m := 81) (hok x hx).2.1 (hok x hx).2.2
    have h1 := chkCards_len c
    have h2 := h.flen
    have h3 := h.tlen
    have : (chkCards c).length * 248 ≤ 29 * 248 := Nat.mul_le_mul_right _ (by omega)
    omega
theorem chkS_len {c : DChk} (h : OkChk c) : (chkS c).length ≤ 7300 ∧ chkS c ≠ [] := by
  have := (chk_right h).2
  unfold chkS sealS
  refine ⟨by simp only [List.length_append, List.length_cons, List.length_nil, sumS_len]; omega, by simp⟩
theorem chk_printS {c : DChk} (h : OkChk c) : printS (chkCards c) = chkS c := by unfold printS; rw [(chk_right h).1]; rfl
section
variable {K : Nat} (hK : 1000000 ≤ K) (hK2 : K < 4611686018427387904)
include hK hK2
theorem OkChk.fits {c : DChk} (h : OkChk c) : FitsK K c := by
  refine ⟨?_, by have := h.flen; omega, fun f hf => ?_, by have := h.plen; omega, fun s hs => by have := (h.pars s hs).2; omega, by have := h.tlen; omega, fun t ht => ?_, by have := h.ulen; omega⟩
  · rcases h.base with e | ⟨_, e⟩
    · rw [e]; simp; omega
    · omega
  · obtain ⟨_, f2, f3⟩ := h.files f hf
    refine ⟨by omega, ?_⟩
    rcases f3 with e | ⟨_, e⟩
    · rw [e]; simp; omega
    · omega
  · have := (h.tags t ht).nlen
    have := (h.tags t ht).tlen
    omega
theorem chkOne_eq (k : Int) (a : List (List UInt8)) : checkin_one.f K ((k, a, ()) : Int × List (List UInt8) × Unit) = some (k, a, ()) := by
  have _h := hK
  have _h2 := hK2
  rw [checkin_one.eq]
theorem cprint_tail {c : DChk} (l : List DCard) (hl : l.length < 2000) (ht : c.2.2.2.2.2.1.length < 1000) (htb : ∀ t ∈ c.2.2.2.2.2.1, t.2.1.length < 1000000 ∧ t.2.2.2.1.length < 400000) (hb : (bodyS (l ++ c.2.2.2.2.2.1.map tagCard ++ [(85, [c.2.2.2.2.2.2.1], ())])).length < 900000) :
    checkin_Print.j16 K l c.1 c.2.1 c.2.2.1 c.2.2.2.1 c.2.2.2.2.1 c.2.2.2.2.2.1 c.2.2.2.2.2.2.1 = some (printS (l ++ c.2.2.2.2.2.1.map tagCard ++ [(85, [c.2.2.2.2.2.2.1], ())])) := by
  have _h := hK2
  rw [checkin_Print.j16_eq (by omega), tagCards_eq hK (by omega) htb, Option.bind_some, growOk_t (by omega) (by rw [List.length_map]; omega), chks_t, chks_nil, checkin_one.eq, Option.bind_some, growOk_t (by omega) (by rw [List.length_append, List.length_map]; simp; omega), chks_t, chks_nil]
  have := print_eq hK (l := l ++ c.2.2.2.2.2.1.map tagCard ++ [(85, [c.2.2.2.2.2.2.1], ())]) (by omega)
  rw [this]
  rfl
theorem cprint_files {c : DChk} (hnf : c.2.2.2.1.length < 1000) (ht : c.2.2.2.2.2.1.length < 1000) (htb : ∀ t ∈ c.2.2.2.2.2.1, t.2.1.length < 1000000 ∧ t.2.2.2.1.length < 400000) (t : Int) (ht2 : t = (c.2.2.2.1.length : Int)) :
    ∀ (r : List DFile) (k n : Nat) (l : List DCard), c.2.2.2.1.drop k = r → k ≤ c.2.2.2.1.length → r.length < n → l.length ≤ k + 3 → (bodyS (((l ++ r.map fileCard) ++ parCards c.2.2.2.2.1) ++ c.2.2.2.2.2.1.map tagCard ++ [(85, [c.2.2.2.2.2.2.1], ())])).length < 900000 →
    checkin_Print.l8 K n l c.2.2.2.1 t k c.1 c.2.1 c.2.2.1 c.2.2.2.1 c.2.2.2.2.1 c.2.2.2.2.2.1 c.2.2.2.2.2.2.1 = some (printS (((l ++ r.map fileCard) ++ parCards c.2.2.2.2.1) ++ c.2.2.2.2.2.1.map tagCard ++ [(85, [c.2.2.2.2.2.2.1], ())])) := by
  subst ht2
  intro r
  induction r with
  | nil =>
    intro k n l hd hk hn hl hb
    have := drop_nil hd hk
    subst this
    obtain ⟨n, rfl⟩ : ∃ m, n = m + 1 := ⟨n - 1, by omega⟩
    rw [checkin_Print.l8_succ]
    simp only [Int.lt_irrefl, decide_false, cond_false, List.map_nil, List.append_nil] at hb ⊢
    by_cases e : c.2.2.2.2.1 = []
    · have e1 : ¬ ((0 : Int) < (c.2.2.2.2.1.length : Int)) := by rw [e]; simp
      simp only [e1, decide_false, cond_false]
      have ep : parCards c.2.2.2.2.1 = [] := by unfold parCards; rw [if_pos e]
      rw [ep, List.append_nil] at hb ⊢
      exact cprint_tail hK hK2 l (by omega) ht htb hb
    · have e1 : ((0 : Int) < (c.2.2.2.2.1.length : Int)) := by have := List.length_pos_iff.2 e; omega
      have ep : parCards c.2.2.2.2.1 = [(80, c.2.2.2.2.1, ())] := by unfold parCards; rw [if_neg e]
      rw [ep] at hb ⊢
      simp only [e1, decide_true, cond_true, chkOne_eq hK hK2, Option.bind_some]
      rw [growOk_t (by omega) (by simp; omega), chks_t, chks_nil]
      exact cprint_tail hK hK2 _ (by simp; omega) ht htb hb
  | cons f r ih =>
    intro k n l hd hk hn hl hb
    obtain ⟨n, rfl⟩ : ∃ m, n = m + 1 := ⟨n - 1, by omega⟩
    simp only [List.length_cons] at hn
    obtain ⟨hg, hlt, hd'⟩ := getD_drop (d := DTy.dflt TFile) hd
    have h1 : (k : Int) < (c.2.2.2.1.length : Int) := by omega
    have es : l ++ (f :: r).map fileCard = (l ++ [fileCard f]) ++ r.map fileCard := by simp
    rw [es] at hb ⊢
    have ihn := ih (k + 1) n (l ++ [fileCard f]) hd' (by omega) (by omega) (by simp; omega) hb
    rw [checkin_Print.l8_succ]
    simp only [h1, Int.natCast_nonneg, decide_true, cond_true, chks_t, chks_nil, Int.toNat_natCast, hg, chkOne_eq hK hK2, Option.bind_some, wS (show k < 4611686018427387904 by omega)]
    rw [← ihn]
    unfold fileCard
    by_cases e : f.2.1 = []
    · simp only [e, decide_true, cond_true, if_true]
      rw [growOk_t (by omega) (by simp; omega), chks_t, chks_nil]
    · simp only [e, decide_false, cond_false, if_false]
      rw [growOk_t (by omega) (by simp; omega), chks_t, chks_nil]
theorem chkPrint_eq {c : DChk} (h : FitsK K c) : checkin_Print.f K ((c, ()) : DChk × Unit) = some (if rightK c = true then chkS c else []) := by
  rw [checkin_Print.eq, show (c.1, c.2.1, c.2.2.1, c.2.2.2.1, c.2.2.2.2.1, c.2.2.2.2.2.1, c.2.2.2.2.2.2.1, ()) = c from rfl, rightK_eq hK hK2 h, Option.bind_some]
  cases hr : rightK c with
  | false => rfl
  | true =>
    have ho := rightK_ok hr
    have hb := (chk_right ho).2
    have h6 : ∀ l : List DCard, l = baseCards c.1 → checkin_Print.j6 K l c.1 c.2.1 c.2.2.1 c.2.2.2.1 c.2.2.2.2.1 c.2.2.2.2.2.1 c.2.2.2.2.2.2.1 = some (chkS c) := by
      intro l hl
      have hbl : (baseCards c.1).length ≤ 1 := by unfold baseCards; split <;> simp
      have hll : l.length ≤ 1 := by rw [hl]; exact hbl
      have hel := escS_len c.2.1
      have hcl := ho.clen
      rw [checkin_Print.j6_eq (by omega), put_eq hK (by omega), Option.bind_some, catOk_t (by simp; omega), chks_t, chks_nil, checkin_one.eq, Option.bind_some, dec_eq hK, Option.bind_some, checkin_one.eq, Option.bind_some, growOk_t (by omega) (by simp; omega), chks_t, chks_nil, ← chk_printS ho]
      have := cprint_files hK hK2 (c := c) (by have := ho.flen; omega) (by have := ho.tlen; omega) (fun t ht => ⟨by have := (ho.tags t ht).nlen; omega, by have := (ho.tags t ht).vlen; omega⟩) _ rfl c.2.2.2.1 0 K (l ++ headCards c) rfl (Nat.zero_le _) (by have := ho.flen; omega) (by simp [headCards]; omega) (by rw [hl]; show (bodyS (chkCards c)).length < 900000; omega)
      refine Eq.trans this ?_
      rw [hl]
      rfl
    simp only [Bool.not_true, cond_false, if_true]
    by_cases e : c.1 = []
    · simp only [e, decide_true, Bool.not_true, cond_false]
      have := h6 [] (by unfold baseCards; rw [if_pos e])
      rw [e] at this
      exact this
    · simp only [e, decide_false, Bool.not_false, cond_true, chkOne_eq hK hK2, Option.bind_some]
      rw [growOk_t (by omega) (by simp), chks_t, chks_nil]
      exact h6 _ (by unfold baseCards; rw [if_neg e])
theorem rchk_tail {c : DChk} (l : List DCard) (hl : l.length < 2000) (ht : c.2.2.2.2.2.1.length < 1000) (htb : ∀ t ∈ c.2.2.2.2.2.1, t.2.1.length < 1000000 ∧ t.2.2.2.1.length < 400000) (hb : (bodyS (l ++ c.2.2.2.2.2.1.map tagCard ++ [(85, [c.2.2.2.2.2.2.1], ())])).length < 900000) :
    ((ammoniteref10_ops.f K ((c.2.2.2.2.2.1, ()) : List DTag × Unit)).bind fun v_3 =>
       (chks [(growOk (List.length l) (List.length v_3) 32)]
        (chks [(growOk (List.length (l ++ v_3)) (List.length ([((85 : Int), (([c.2.2.2.2.2.2.1] : List (List UInt8)), ()))] : List DCard)) 32)]
         ((ammoniteref10_Print.f K ((((l ++ v_3) ++ ([((85 : Int), (([c.2.2.2.2.2.2.1] : List (List UInt8)), ()))] : List DCard)), ()) : List DCard × Unit)).bind fun v_4 =>
          (some v_4))))) = some (sealS (bodyS (l ++ c.2.2.2.2.2.1.map tagCard ++ [(85, [c.2.2.2.2.2.2.1], ())]))) := by
  have _h := hK2
  rw [ops_eq hK (by omega) htb, Option.bind_some, growOk_t (by omega) (by rw [List.length_map]; omega), chks_t, chks_nil, growOk_t (by omega) (by rw [List.length_append, List.length_map]; simp; omega), chks_t, chks_nil, rprint_eq hK hb]
  rfl
theorem rchk_files {c : DChk} (hnf : c.2.2.2.1.length < 1000) (ht : c.2.2.2.2.2.1.length < 1000) (htb : ∀ t ∈ c.2.2.2.2.2.1, t.2.1.length < 1000000 ∧ t.2.2.2.1.length < 400000) (t : Int) (ht2 : t = (c.2.2.2.1.length : Int)) :
    ∀ (r : List DFile) (k n : Nat) (l : List DCard), c.2.2.2.1.drop k = r → k ≤ c.2.2.2.1.length → r.length < n → l.length ≤ k + 3 → (bodyS (((l ++ r.map fileCard) ++ parCards c.2.2.2.2.1) ++ c.2.2.2.2.2.1.map tagCard ++ [(85, [c.2.2.2.2.2.2.1], ())])).length < 900000 →
    ammoniteref10_Checkin.l6 K n l c.2.2.2.1 t k c.1 c.2.1 c.2.2.1 c.2.2.2.1 c.2.2.2.2.1 c.2.2.2.2.2.1 c.2.2.2.2.2.2.1 = some (sealS (bodyS (((l ++ r.map fileCard) ++ parCards c.2.2.2.2.1) ++ c.2.2.2.2.2.1.map tagCard ++ [(85, [c.2.2.2.2.2.2.1], ())]))) := by
  subst ht2
  intro r
  induction r with
  | nil =>
    intro k n l hd hk hn hl hb
    have := drop_nil hd hk
    subst this
    obtain ⟨n, rfl⟩ : ∃ m, n = m + 1 := ⟨n - 1, by omega⟩
    rw [ammoniteref10_Checkin.l6_succ]
    simp only [Int.lt_irrefl, decide_false, cond_false, List.map_nil, List.append_nil] at hb ⊢
    by_cases e : c.2.2.2.2.1 = []
    · have e1 : ¬ ((0 : Int) < (c.2.2.2.2.1.length : Int)) := by rw [e]; simp
      simp only [e1, decide_false, cond_false]
      have ep : parCards c.2.2.2.2.1 = [] := by unfold parCards; rw [if_pos e]
      rw [ep, List.append_nil] at hb ⊢
      exact rchk_tail hK hK2 l (by omega) ht htb hb
    · have e1 : ((0 : Int) < (c.2.2.2.2.1.length : Int)) := by have := List.length_pos_iff.2 e; omega
      have ep : parCards c.2.2.2.2.1 = [(80, c.2.2.2.2.1, ())] := by unfold parCards; rw [if_neg e]
      rw [ep] at hb ⊢
      simp only [e1, decide_true, cond_true]
      rw [growOk_t (by omega) (by simp; omega), chks_t, chks_nil]
      exact rchk_tail hK hK2 _ (by simp; omega) ht htb hb
  | cons f r ih =>
    intro k n l hd hk hn hl hb
    obtain ⟨n, rfl⟩ : ∃ m, n = m + 1 := ⟨n - 1, by omega⟩
    simp only [List.length_cons] at hn
    obtain ⟨hg, hlt, hd'⟩ := getD_drop (d := DTy.dflt TFile) hd
    have h1 : (k : Int) < (c.2.2.2.1.length : Int) := by omega
    have es : l ++ (f :: r).map fileCard = (l ++ [fileCard f]) ++ r.map fileCard := by simp
    rw [es] at hb ⊢
    have ihn := ih (k + 1) n (l ++ [fileCard f]) hd' (by omega) (by omega) (by simp; omega) hb
    have h11 : ∀ a : List (List UInt8), fileCard f = (70, a, ()) → ammoniteref10_Checkin.j11 K (ammoniteref10_Checkin.r6 K n) l a c.2.2.2.1 (c.2.2.2.1.length : Int) (k : Int) c.1 c.2.1 c.2.2.1 c.2.2.2.1 c.2.2.2.2.1 c.2.2.2.2.2.1 c.2.2.2.2.2.2.1 = some (sealS (bodyS ((((l ++ [fileCard f]) ++ r.map fileCard) ++ parCards c.2.2.2.2.1) ++ c.2.2.2.2.2.1.map tagCard ++ [(85, [c.2.2.2.2.2.2.1], ())]))) := by
      intro a ha
      rw [ammoniteref10_Checkin.j11_eq (by omega), growOk_t (by omega) (by simp; omega), chks_t, chks_nil, wS (by omega), ← ihn, ha]
      rfl
    rw [ammoniteref10_Checkin.l6_succ]
    simp only [h1, Int.natCast_nonneg, decide_true, cond_true, chks_t, chks_nil, Int.toNat_natCast, hg]
    by_cases e : f.2.1 = []
    · simp only [e, decide_true, Bool.not_true, cond_false]
      exact h11 [f.1] (by unfold fileCard; rw [if_pos e])
    · simp only [e, decide_false, Bool.not_false, cond_true]
      rw [growOk_t (by omega) (by simp), chks_t, chks_nil]
      exact h11 [f.1, f.2.1] (by unfold fileCard; rw [if_neg e])
theorem rchk_eq {c : DChk} (hc : c.2.1.length < 1000) (hnf : c.2.2.2.1.length < 900) (ht : c.2.2.2.2.2.1.length < 1000) (htb : ∀ t ∈ c.2.2.2.2.2.1, t.2.1.length < 1000000 ∧ t.2.2.2.1.length < 400000) (hb : (bodyS (chkCards c)).length < 900000) : ammoniteref10_Checkin.f K ((c, ()) : DChk × Unit) = some (chkS c) := by
  have h4 : ∀ l : List DCard, l = baseCards c.1 → ammoniteref10_Checkin.j4 K l c.1 c.2.1 c.2.2.1 c.2.2.2.1 c.2.2.2.2.1 c.2.2.2.2.2.1 c.2.2.2.2.2.2.1 = some (chkS c) := by
    intro l hl
    have hbl : (baseCards c.1).length ≤ 1 := by unfold baseCards; split <;> simp
    have hll : l.length ≤ 1 := by rw [hl]; exact hbl
    have hel := escS_len c.2.1
    rw [ammoniteref10_Checkin.j4_eq (by omega), esc_eq hK (by omega), Option.bind_some, catOk_t (by simp; omega), chks_t, chks_nil, rdec_eq hK, Option.bind_some, growOk_t (by omega) (by simp; omega), chks_t, chks_nil]
    have := rchk_files hK hK2 (c := c) (by omega) ht htb _ rfl c.2.2.2.1 0 K (l ++ headCards c) rfl (Nat.zero_le _) (by omega) (by simp [headCards]; omega) (by rw [hl]; exact hb)
    refine Eq.trans this ?_
    rw [hl]
    rfl
  rw [ammoniteref10_Checkin.eq]
  by_cases e : c.1 = []
  · simp only [e, decide_true, Bool.not_true, cond_false]
    have := h4 [] (by unfold baseCards; rw [if_pos e])
    rw [e] at this
    exact this
  · simp only [e, decide_false, Bool.not_false, cond_true]
    rw [growOk_t (by omega) (by simp), chks_t, chks_nil]
    exact h4 _ (by unfold baseCards; rw [if_neg e])
theorem rchk_ok {c : DChk} (h : OkChk c) : ammoniteref10_Checkin.f K ((c, ()) : DChk × Unit) = some (chkS c) :=
  rchk_eq hK hK2 (by have := h.clen; omega) (by have := h.flen; omega) (by have := h.tlen; omega) (fun t ht => ⟨by have := (h.tags t ht).nlen; omega, by have := (h.tags t ht).vlen; omega⟩) (by have := (chk_right h).2; omega)
end
def sameK (a b : DChk) : Bool := decide (a.1 = b.1) && (decide (a.2.1 = b.2.1) && (decide (a.2.2.1 = b.2.2.1) && (decide (a.2.2.2.2.2.2.1 = b.2.2.2.2.2.2.1) && (decide (a.2.2.2.1 = b.2.2.2.1) && (decide (a.2.2.2.2.1 = b.2.2.2.2.1) && decide (a.2.2.2.2.2.1 = b.2.2.2.2.2.1))))))
theorem sameK_iff {a b : DChk} : sameK a b = true ↔ a = b := by
  obtain ⟨a1, a2, a3, a4, a5, a6, a7, ⟨⟩⟩ := a
  obtain ⟨b1, b2, b3, b4, b5, b6, b7, ⟨⟩⟩ := b
  unfold sameK
  simp only [Bool.and_eq_true, decide_eq_true_eq, Prod.mk.injEq, and_true]
  constructor
  · rintro ⟨h1, h2, h3, h7, h4, h5, h6⟩; exact ⟨h1, h2, h3, h4, h5, h6, h7⟩
  · rintro ⟨h1, h2, h3, h4, h5, h6, h7⟩; exact ⟨h1, h2, h3, h7, h4, h5, h6⟩
theorem sameK_refl (a : DChk) : sameK a a = true := sameK_iff.2 rfl
section
variable {K : Nat} (hK : 1000000 ≤ K) (hK2 : K < 4611686018427387904)
include hK hK2
theorem chkSame_eq {a b : DChk} (h : FitsK K a) : checkin_Same.f K ((a, b, ()) : DChk × DChk × Unit) = some (sameK a b) := by
  have _h := hK
  rw [checkin_Same.eq, equalF_eq hK2 h.nfiles, equalS_eq hK2 h.npar, equalT_eq h.ntags hK2]
  unfold sameK
  simp only [Option.bind_some]
  generalize decide (a.1 = b.1) = x1
  generalize decide (a.2.1 = b.2.1) = x2
  generalize decide (a.2.2.1 = b.2.2.1) = x3
  generalize decide (a.2.2.2.2.2.2.1 = b.2.2.2.2.2.2.1) = x4
  generalize decide (a.2.2.2.1 = b.2.2.2.1) = x5
  generalize decide (a.2.2.2.2.1 = b.2.2.2.2.1) = x6
  generalize decide (a.2.2.2.2.2.1 = b.2.2.2.2.2.1) = x7
  cases x1 <;> cases x2 <;> cases x3 <;> cases x4 <;> cases x5 <;> cases x6 <;> rfl
theorem checkins_eq {a b : DChk} (h : FitsK K a) : ammonitekeep_Checkins.f K ((a, b, ()) : DChk × DChk × Unit) = some (sameK a b) := by
  have _h := hK
  rw [ammonitekeep_Checkins.eq, sameF_eq hK2 h.nfiles, sameS_eq hK2 h.npar, sameT_eq h.ntags hK2]
  unfold sameK
  simp only [Option.bind_some]
  generalize decide (a.1 = b.1) = x1
  generalize decide (a.2.1 = b.2.1) = x2
  generalize decide (a.2.2.1 = b.2.2.1) = x3
  generalize decide (a.2.2.2.2.2.2.1 = b.2.2.2.2.2.2.1) = x4
  generalize decide (a.2.2.2.1 = b.2.2.2.1) = x5
  generalize decide (a.2.2.2.2.1 = b.2.2.2.2.1) = x6
  generalize decide (a.2.2.2.2.2.1 = b.2.2.2.2.2.1) = x7
  cases x1 <;> cases x2 <;> cases x3 <;> cases x4 <;> cases x5 <;> cases x6 <;> rfl
end
end Go.Proofs.Ytaoadbkoambjbaa.Ab
