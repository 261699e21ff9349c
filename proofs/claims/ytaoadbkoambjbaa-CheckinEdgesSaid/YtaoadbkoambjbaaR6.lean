/- CheckinComments, CheckinEdges. -/
import Derived.Test.YtaoadbkoambjbaaR5
set_option linter.unusedVariables false
set_option linter.unusedSimpArgs false
set_option linter.unusedSectionVars false
set_option maxRecDepth 10000
namespace Go.Proofs.Ytaoadbkoambjbaa.Ab
open Go Go.RowKit Go.Proofs.Ytaoadbkoambjbaa.Given
section
variable {K : Nat} (hK : 1000000 ≤ K) (hK2 : K < 4611686018427387904)
include hK hK2
theorem rchkBack {c : DChk} (h : rightK c = true) : ammoniteref10_ReadCheckin.f K ((chkS c, ()) : List UInt8 × Unit) = some (c, true, ()) := by
  have ho := rightK_ok h
  obtain ⟨x, ok, h1, h2, h3, h4⟩ := rchkRead_eq hK hK2 (s := chkS c) (by have := (chkS_len ho).1; omega)
  obtain ⟨e1, e2⟩ := h4 c h rfl
  rw [h1, e1, e2]
theorem kind_chk {c : DChk} (h : rightK c = true) : ammoniteref10_Kind.f K ((chkS c, ()) : List UInt8 × Unit) = some 2 := by
  rw [ammoniteref10_Kind.eq, rchkBack hK hK2 h]
  rfl
theorem comments_eq (s : List UInt8) (date : Int) : ammonitelaw12_CheckinComments.f K ((s, date, ()) : List UInt8 × Int × Unit) = some true := by
  obtain ⟨d, d1, d2, d3⟩ := within_eq K (n := date) (lo := 0) (hi := 1073741824) (by omega) (by omega) (by omega)
  have q1 := min_lo s.length (show (0 : Int) ≤ 40 by decide)
  have q2 := min_hi 40 s.length
  have hcut := cut_min s (show (0 : Int) ≤ 40 by decide)
  have h40 : Int.toNat 40 = 40 := rfl
  have hcl : (s.take 40).length ≤ 40 := by rw [List.length_take]; omega
  have hr : rightK (([], s.take 40, d, [], [], [], [109, 101], ()) : DChk) = true := by
    unfold rightK
    have e1 : decide ((s.take 40).length ≤ 40) = true := decide_eq_true hcl
    have e2 : decide (0 ≤ d) = true := decide_eq_true d2
    have e3 : decide (d ≤ 1073741824) = true := decide_eq_true d3
    have e4 : wordB [109, 101] = true := by decide
    have e5 : rightT true [] = true := by decide
    simp [e2, e3, e4, e5, okFiles, okNames]
    omega
  have ho := rightK_ok hr
  have hp := chkPrint_eq hK hK2 (OkChk.fits hK hK2 ho)
  rw [if_pos hr] at hp
  obtain ⟨l, ok, r1, r2, r3, r4⟩ := read_eq hK (s := chkS (([], s.take 40, d, [], [], [], [109, 101], ()) : DChk)) (by have := (chkS_len ho).1; omega)
  obtain ⟨r5, r6⟩ := r4 _ (chk_right ho).1 (chk_printS ho)
  have hone := cardOne_eq hK hK2 (l := l) (k := 67) (by rw [r6]; have := chkCards_len (([], s.take 40, d, [], [], [], [109, 101], ()) : DChk); simp at this; omega)
  rw [r6, (chk_args _).2.1] at hone
  have e46 : catOk ([46] : List UInt8) (escS (s.take 40)) = true := catOk_t (by have := escS_len (s.take 40); simp only [List.length_cons, List.length_nil]; omega)
  rw [ammonitelaw12_CheckinComments.eq]
  simp only [q1, q2, hcut, decide_true, chks_t, chks_nil, h40]
  rw [d1, Option.bind_some, hp, Option.bind_some, chkBack hK hK2 hr, Option.bind_some, r1, Option.bind_some, r5]
  show ((card_One.f K ((l, 67, ()) : List DCard × Int × Unit)).bind fun v_5 => _) = _
  rw [r6, hone, Option.bind_some]
  simp only [cond_true]
  rw [chkSame_eq hK hK2 (OkChk.fits hK hK2 ho), sameK_refl, esc_eq hK (by omega), kind_chk hK hK2 hr, chkRuns_eq hK hK2]
  simp only [Option.bind_some, cond_true, List.headD_cons, e46]
  have c1 : decide (((([[[46] ++ escS (s.take 40)]] : List (List (List UInt8))).length : Nat) : Int) = 1) = true := rfl
  have c2 : decide (((([[46] ++ escS (s.take 40)] : List (List UInt8)).length : Nat) : Int) = 1) = true := rfl
  have c3 : decide ((0 : Int) < ((([[46] ++ escS (s.take 40)] : List (List UInt8)).length : Nat) : Int)) = true := rfl
  have c4 : ([[46] ++ escS (s.take 40)] : List (List UInt8)).getD (Int.toNat 0) (DTy.dflt .str) = [46] ++ escS (s.take 40) := rfl
  simp only [c1, c2, c3, c4, decide_true, cond_true, chks_t, chks_nil]
  rfl
theorem line_uniq {a b x y : List UInt8} (ha : ¬ (10 : UInt8) ∈ a) (hb : ¬ (10 : UInt8) ∈ b) (h : a ++ 10 :: x = b ++ 10 :: y) : a = b ∧ x = y := by
  have _h := hK
  have _h2 := hK2
  induction a generalizing b with
  | nil =>
    cases b with
    | nil => simp at h; exact ⟨rfl, h⟩
    | cons c b => simp at h; exact absurd List.mem_cons_self (by rw [← h.1] at hb; exact hb)
  | cons c a ih =>
    cases b with
    | nil => simp at h; exact absurd List.mem_cons_self (by rw [h.1] at ha; exact ha)
    | cons d b =>
      simp at h
      obtain ⟨h1, h2⟩ := ih (fun hm => ha (List.mem_cons_of_mem _ hm)) (fun hm => hb (List.mem_cons_of_mem _ hm)) h.2
      exact ⟨by rw [h.1, h1], h2⟩
theorem lines_eq : ∀ (a b : List DCard), (∀ c ∈ a, ¬ (10 : UInt8) ∈ lineW c) → (∀ c ∈ b, ¬ (10 : UInt8) ∈ lineW c) → bodyS a = bodyS b → a.map lineW = b.map lineW := by
  intro a
  induction a with
  | nil =>
    intro b _ _ h
    cases b with
    | nil => rfl
    | cons c b => rw [body_cons, cardLine_eq] at h; simp [bodyS] at h
  | cons c a ih =>
    intro b ha hb h
    cases b with
    | nil => rw [body_cons, cardLine_eq] at h; simp [bodyS] at h
    | cons d b =>
      rw [body_cons, body_cons, cardLine_eq, cardLine_eq, List.append_assoc, List.append_assoc] at h
      obtain ⟨h1, h2⟩ := line_uniq hK hK2 (ha c List.mem_cons_self) (hb d List.mem_cons_self) h
      rw [List.map_cons, List.map_cons, h1, ih b (fun x hx => ha x (List.mem_cons_of_mem _ hx)) (fun x hx => hb x (List.mem_cons_of_mem _ hx)) h2]
theorem seal_inj {a b : List UInt8} (h : sealS a = sealS b) : a = b := by
  have _h := hK
  have _h2 := hK2
  unfold sealS at h
  have hl := congrArg List.length h
  simp only [List.length_append, List.length_cons, List.length_nil, sumS_len] at hl
  simp only [List.append_assoc] at h
  exact (List.append_inj h (by omega)).1
theorem lineW_nl {c : DCard} (h0 : UInt8.ofNat c.1.toNat ≠ 10) (h : ∀ a ∈ c.2.1, ¬ (10 : UInt8) ∈ a) : ¬ (10 : UInt8) ∈ lineW c := by
  have _h := hK
  have _h2 := hK2
  intro hm
  unfold lineW at hm
  rcases join_mem hm with e | ⟨w, hw, hx⟩
  · revert e; decide
  · rcases List.mem_cons.1 hw with rfl | hw
    · simp at hx; exact h0 hx.symm
    · exact h w hw hx
theorem lineW_sp {c : DCard} (h0 : UInt8.ofNat c.1.toNat ≠ 32) (h : ∀ a ∈ c.2.1, ¬ (32 : UInt8) ∈ a) : splitL 32 (lineW c) = [UInt8.ofNat c.1.toNat] :: c.2.1 := by
  have _h := hK
  have _h2 := hK2
  unfold lineW
  refine splitL_join (by simp) fun w hw => ?_
  rcases List.mem_cons.1 hw with rfl | hw
  · simp; exact fun e => h0 e.symm
  · exact h w hw
structure Sm (c : DChk) : Prop where
  base : c.1.length ≤ 200 ∧ ¬ (10 : UInt8) ∈ c.1
  clen : c.2.1.length ≤ 139
  flen : c.2.2.2.1.length ≤ 12
  files : ∀ f ∈ c.2.2.2.1, (f.1.length ≤ 200 ∧ ¬ (10 : UInt8) ∈ f.1) ∧ (f.2.1.length ≤ 200 ∧ ¬ (10 : UInt8) ∈ f.2.1)
  plen : c.2.2.2.2.1.length ≤ 3
  pars : ∀ s ∈ c.2.2.2.2.1, s.length ≤ 200 ∧ ¬ (10 : UInt8) ∈ s
  tlen : c.2.2.2.2.2.1.length ≤ 12
  tags : ∀ t ∈ c.2.2.2.2.2.1, (t.2.1.length ≤ 40 ∧ t.2.2.1.length ≤ 40 ∧ t.2.2.2.1.length ≤ 100) ∧ 0 ≤ t.1 ∧ t.1 < 256 ∧ t.2.1 ≠ [] ∧ (∀ a ∈ tagArgs t, ¬ (10 : UInt8) ∈ a ∧ ¬ (32 : UInt8) ∈ a)
  user : c.2.2.2.2.2.2.1.length ≤ 200 ∧ ¬ (10 : UInt8) ∈ c.2.2.2.2.2.2.1
theorem Sm.ofOk {c : DChk} (h : OkChk c) : Sm c := by
  have _h := hK
  have _h2 := hK2
  refine ⟨?_, by have := h.clen; omega, h.flen, fun f hf => ?_, h.plen, fun s hs => ?_, h.tlen, fun t ht => ?_, ?_⟩
  · rcases h.base with e | ⟨e1, e2⟩
    · rw [e]; simp
    · exact ⟨by omega, (okArg_iff.1 e1).2.2⟩
  · obtain ⟨f1, f2, f3⟩ := h.files f hf
    refine ⟨⟨by omega, (okArg_iff.1 f1).2.2⟩, ?_⟩
    rcases f3 with e | ⟨e1, e2⟩
    · rw [e]; simp
    · exact ⟨by omega, (okArg_iff.1 e1).2.2⟩
  · obtain ⟨p1, p2⟩ := h.pars s hs
    exact ⟨by omega, (okArg_iff.1 p1).2.2⟩
  · have ht := h.tags t ht
    refine ⟨⟨by have := ht.nlen; omega, ht.tlen, by have := ht.vlen; omega⟩, ht.range.1, ht.range.2.1, ht.range.2.2, fun a ha => ?_⟩
    have := (ht.card).1.arg a ha
    exact ⟨(okArg_iff.1 this).2.2, (okArg_iff.1 this).2.1⟩
  · exact ⟨by have := h.ulen; omega, (okArg_iff.1 h.user).2.2⟩
theorem Sm.cards {c : DChk} (h : Sm c) : ∀ x ∈ chkCards c, x.2.1.length ≤ 3 ∧ (∀ a ∈ x.2.1, a.length ≤ 300 ∧ ¬ (10 : UInt8) ∈ a) ∧ 65 ≤ x.1 ∧ x.1 ≤ 89 := by
  have _h := hK
  have _h2 := hK2
  intro x hx
  rcases chk_mem hx with ⟨e, rfl⟩ | rfl | rfl | ⟨f, hf, rfl⟩ | ⟨e, rfl⟩ | ⟨t, ht, rfl⟩ | rfl
  · exact ⟨by simp, fun a ha => by simp at ha; rw [ha]; exact ⟨by have := h.base.1; omega, h.base.2⟩, by show (65 : Int) ≤ 66; decide, by show (66 : Int) ≤ 89; decide⟩
  · refine ⟨by simp, fun a ha => ?_, by show (65 : Int) ≤ 67; decide, by show (67 : Int) ≤ 89; decide⟩
    simp only [List.mem_cons, List.not_mem_nil, or_false] at ha
    rw [ha]
    refine ⟨?_, ?_⟩
    · have := escS_len c.2.1; have := h.clen; simp only [List.length_append, List.length_cons, List.length_nil]; omega
    · have := (escS_free c.2.1).2; simpa using this
  · exact ⟨by simp, fun a ha => by simp at ha; rw [ha]; exact ⟨by have := decS_len c.2.2.1; omega, (decS_free _).2⟩, by show (65 : Int) ≤ 68; decide, by show (68 : Int) ≤ 89; decide⟩
  · obtain ⟨⟨f1, f2⟩, f3, f4⟩ := h.files f hf
    refine ⟨by unfold fileCard; split <;> simp, fun a ha => ?_, by show (65 : Int) ≤ 70; decide, by show (70 : Int) ≤ 89; decide⟩
    unfold fileCard at ha
    split at ha
    · simp at ha; rw [ha]; exact ⟨by omega, f2⟩
    · simp at ha
      rcases ha with rfl | rfl
      · exact ⟨by omega, f2⟩
      · exact ⟨by omega, f4⟩
  · exact ⟨h.plen, fun a ha => ⟨by have := (h.pars a ha).1; omega, (h.pars a ha).2⟩, by show (65 : Int) ≤ 80; decide, by show (80 : Int) ≤ 89; decide⟩
  · obtain ⟨⟨t1, t2, t3⟩, t4, t5, t6, t7⟩ := h.tags t ht
    refine ⟨by show (tagArgs t).length ≤ 3; unfold tagArgs; split <;> simp, fun a ha => ⟨?_, (t7 a ha).1⟩, by show (65 : Int) ≤ 84; decide, by show (84 : Int) ≤ 89; decide⟩
    have ha : a ∈ tagArgs t := ha
    unfold tagArgs at ha
    simp only [List.mem_append, List.mem_cons, List.not_mem_nil, or_false] at ha
    rcases ha with (rfl | rfl) | ha
    · simp only [List.length_cons]; omega
    · omega
    · split at ha
      · cases ha
      · simp at ha; rw [ha]; have := escS_len t.2.2.2.1; omega
  · exact ⟨by simp, fun a ha => by simp at ha; rw [ha]; exact ⟨by have := h.user.1; omega, h.user.2⟩, by show (65 : Int) ≤ 85; decide, by show (85 : Int) ≤ 89; decide⟩
theorem Sm.body {c : DChk} (h : Sm c) : (bodyS (chkCards c)).length ≤ 26300 := by
  have hc := Sm.cards hK hK2 h
  have := body_le 905 (chkCards c) fun x hx => line_le (k := 3) (m := 300) (hc x hx).1 (fun a ha => ((hc x hx).2.1 a ha).1)
  have h1 := chkCards_len c
  have h2 := h.flen
  have h3 := h.tlen
  have : (chkCards c).length * 905 ≤ 29 * 905 := Nat.mul_le_mul_right _ (by omega)
  omega
theorem Sm.fits {c : DChk} (h : Sm c) : FitsK K c :=
  ⟨by have := h.base.1; omega, by have := h.flen; omega, fun f hf => by have := h.files f hf; omega, by have := h.plen; omega, fun s hs => by have := (h.pars s hs).1; omega, by have := h.tlen; omega, fun t ht => by have := (h.tags t ht).1; omega, by have := h.user.1; omega⟩
theorem letter_byte {a b : Int} (ha : 65 ≤ a ∧ a ≤ 89) (hb : 65 ≤ b ∧ b ≤ 89) (h : UInt8.ofNat a.toNat = UInt8.ofNat b.toNat) : a = b := by
  have _h := hK
  have _h2 := hK2
  have := congrArg UInt8.toNat h
  rw [UInt8.toNat_ofNat', UInt8.toNat_ofNat', Nat.mod_eq_of_lt (by omega), Nat.mod_eq_of_lt (by omega)] at this
  omega
theorem letter_nosp {a : Int} (ha : 65 ≤ a ∧ a ≤ 89) : UInt8.ofNat a.toNat ≠ 32 ∧ UInt8.ofNat a.toNat ≠ 10 := by
  have _h := hK
  have _h2 := hK2
  constructor
  · intro h
    have := congrArg UInt8.toNat h
    rw [UInt8.toNat_ofNat', Nat.mod_eq_of_lt (by omega), show (32 : UInt8).toNat = 32 from rfl] at this
    omega
  · intro h
    have := congrArg UInt8.toNat h
    rw [UInt8.toNat_ofNat', Nat.mod_eq_of_lt (by omega), show (10 : UInt8).toNat = 10 from rfl] at this
    omega
theorem same_lines {x c : DChk} (hx : OkChk x) (hc : Sm c) (h : chkS x = chkS c) : (chkCards x).map lineW = (chkCards c).map lineW := by
  refine lines_eq hK hK2 _ _ (fun z hz => lineW_free (chk_cardok hx z hz).1) (fun z hz => ?_) (seal_inj hK hK2 h)
  have := Sm.cards hK hK2 hc z hz
  exact lineW_nl hK hK2 (letter_nosp hK hK2 this.2.2).2 fun a ha => (this.2.1 a ha).2
theorem same_cards {x c : DChk} (hx : OkChk x) (hc : Sm c) (hb : ¬ (32 : UInt8) ∈ c.1) (hf : ∀ f ∈ c.2.2.2.1, ¬ (32 : UInt8) ∈ f.1 ∧ ¬ (32 : UInt8) ∈ f.2.1) (hp : ∀ s ∈ c.2.2.2.2.1, ¬ (32 : UInt8) ∈ s) (hu : ¬ (32 : UInt8) ∈ c.2.2.2.2.2.2.1) (h : chkS x = chkS c) : chkCards x = chkCards c := by
  have hl := same_lines hK hK2 hx hc h
  have hcs : ∀ z ∈ chkCards c, (65 ≤ z.1 ∧ z.1 ≤ 89) ∧ splitL 32 (lineW z) = [UInt8.ofNat z.1.toNat] :: z.2.1 := by
    intro z hz
    have hz2 := Sm.cards hK hK2 hc z hz
    refine ⟨hz2.2.2, lineW_sp hK hK2 (letter_nosp hK hK2 hz2.2.2).1 fun a ha => ?_⟩
    rcases chk_mem hz with ⟨e, rfl⟩ | rfl | rfl | ⟨f, hf2, rfl⟩ | ⟨e, rfl⟩ | ⟨t, ht, rfl⟩ | rfl
    · simp at ha; rw [ha]; exact hb
    · simp only [List.mem_cons, List.not_mem_nil, or_false] at ha
      rw [ha]
      have := (escS_free c.2.1).1
      simpa using this
    · simp at ha; rw [ha]; exact (decS_free _).1
    · unfold fileCard at ha
      split at ha
      · simp at ha; rw [ha]; exact (hf f hf2).1
      · simp at ha
        rcases ha with rfl | rfl
        · exact (hf f hf2).1
        · exact (hf f hf2).2
    · exact hp a ha
    · exact ((hc.tags t ht).2.2.2.2 a ha).2
    · simp at ha; rw [ha]; exact hu
  have hxs : ∀ z ∈ chkCards x, (65 ≤ z.1 ∧ z.1 ≤ 89) ∧ splitL 32 (lineW z) = [UInt8.ofNat z.1.toNat] :: z.2.1 := fun z hz => by
    have := (chk_cardok hx z hz).1
    exact ⟨⟨this.lo, this.hi⟩, lineW_split this⟩
  generalize chkCards x = a at hl hxs
  generalize chkCards c = b at hl hcs
  induction a generalizing b with
  | nil => cases b with
    | nil => rfl
    | cons d b => simp at hl
  | cons e a ih =>
    cases b with
    | nil => simp at hl
    | cons d b =>
      simp only [List.map_cons, List.cons.injEq] at hl
      obtain ⟨l1, s1⟩ := hxs e List.mem_cons_self
      obtain ⟨l2, s2⟩ := hcs d List.mem_cons_self
      rw [hl.1, s2] at s1
      simp only [List.cons.injEq, and_true] at s1
      have e1 : e.1 = d.1 := (letter_byte hK hK2 l2 l1 s1.1).symm
      have : e = d := Prod.ext e1 (Prod.ext s1.2.symm rfl)
      rw [this, ih (fun z hz => hxs z (List.mem_cons_of_mem _ hz)) b hl.2 (fun z hz => hcs z (List.mem_cons_of_mem _ hz))]
theorem same_parts {x c : DChk} (h : chkCards x = chkCards c) : x.2.1 = c.2.1 ∧ decS x.2.2.1 = decS c.2.2.1 ∧ x.2.2.2.1 = c.2.2.2.1 ∧ x.2.2.2.2.1 = c.2.2.2.2.1 ∧ x.2.2.2.2.2.1.map tagArgs = c.2.2.2.2.2.1.map tagArgs ∧ x.2.2.2.2.2.2.1 = c.2.2.2.2.2.2.1 := by
  obtain ⟨a1, a2, a3, a4, a5, a6, a7⟩ := chk_args x
  obtain ⟨b1, b2, b3, b4, b5, b6, b7⟩ := chk_args c
  rw [h] at a1 a2 a3 a4 a5 a6 a7
  rw [b2] at a2
  rw [b3] at a3
  rw [b4] at a4
  rw [b5] at a5
  rw [b6] at a6
  rw [b7] at a7
  have e2 : escS c.2.1 = escS x.2.1 := by simpa using a2
  have e2' : c.2.1 = x.2.1 := by
    have := congrArg unesc e2
    rw [unesc_escS, unesc_escS] at this
    exact Option.some.inj this
  refine ⟨e2'.symm, by simpa using a3.symm, ?_, ?_, a6.symm, by simpa using a7.symm⟩
  · have := congrArg (List.map fileOf) a4
    rw [List.map_map, List.map_map] at this
    have h1 : ∀ l : List DFile, l.map (fileOf ∘ fun f => (fileCard f).2.1) = l := fun l => (List.map_congr_left (g := id) fun f _ => fileOf_card hK hK2 f).trans (List.map_id _)
    rw [h1, h1] at this
    exact this.symm
  · by_cases p1 : c.2.2.2.2.1 = []
    · rw [if_pos p1] at a5
      by_cases p2 : x.2.2.2.2.1 = []
      · rw [p1, p2]
      · rw [if_neg p2] at a5; cases a5
    · rw [if_neg p1] at a5
      by_cases p2 : x.2.2.2.2.1 = []
      · rw [if_pos p2] at a5; cases a5
      · rw [if_neg p2] at a5; simpa using a5.symm
theorem edge_end {c : DChk} (hs : Sm c) (hr : rightK c = false) (hno : ∀ x, rightK x = true → chkS x = chkS c → False) : ammonitelaw12_CheckinEdges.j22 K c.1 c.2.1 c.2.2.1 c.2.2.2.1 c.2.2.2.2.1 c.2.2.2.2.2.1 c.2.2.2.2.2.2.1 = some true := by
  have hfit := Sm.fits hK hK2 hs
  have hbody := Sm.body hK hK2 hs
  have hlen : (chkS c).length < 300000 := by unfold chkS sealS; simp only [List.length_append, List.length_cons, List.length_nil, sumS_len]; omega
  obtain ⟨x, ok, r1, r2, r3, r4⟩ := chkRead_eq hK hK2 hlen
  have hok : ok = false := by
    cases ok with
    | false => rfl
    | true => obtain ⟨q1, q2⟩ := r2 rfl; exact (hno x q1 q2).elim
  rw [ammonitelaw12_CheckinEdges.j22_eq (by omega), show (c.1, c.2.1, c.2.2.1, c.2.2.2.1, c.2.2.2.2.1, c.2.2.2.2.2.1, c.2.2.2.2.2.2.1, ()) = c from rfl, rchk_eq hK hK2 (by have := hs.clen; omega) (by have := hs.flen; omega) (by have := hs.tlen; omega) (fun t ht => by have := (hs.tags t ht).1; omega) (by omega), Option.bind_some, r1, Option.bind_some, rightK_eq hK hK2 hfit, hr, Option.bind_some, chkPrint_eq hK hK2 hfit, hr, chkRuns_eq hK hK2, hok]
  rfl
theorem edge_end' {b cm : List UInt8} {d : Int} {fs : List DFile} {ps : List (List UInt8)} {ts : List DTag} {u : List UInt8} (hs : Sm (b, cm, d, fs, ps, ts, u, ())) (hr : rightK (b, cm, d, fs, ps, ts, u, ()) = false) (hno : ∀ x, rightK x = true → chkS x = chkS (b, cm, d, fs, ps, ts, u, ()) → False) : ammonitelaw12_CheckinEdges.j22 K b cm d fs ps ts u = some true :=
  edge_end hK hK2 hs hr hno
theorem cedges_eq (k : DKChk) (what n : Int) : ammonitelaw12_CheckinEdges.f K ((k, what, n, ()) : DKChk × Int × Int × Unit) = some true := by
  obtain ⟨c, c1, c2⟩ := keepCheckin_eq hK hK2 k
  have hoc := rightK_ok c2
  have hsm := Sm.ofOk hK hK2 hoc
  obtain ⟨m, m1, m2, m3⟩ := within_eq K (n := n) (lo := 1) (hi := 99) (by omega) (by omega) (by omega)
  obtain ⟨w, w1, w2, w3⟩ := within_eq K (n := what) (lo := 0) (hi := 7) (by omega) (by omega) (by omega)
  have hisB := sum_isB [120]
  have hisY := sum_isB [121]
  obtain ⟨x, hx⟩ : ∃ x, sumS [120] = x := ⟨_, rfl⟩
  obtain ⟨y, hy⟩ : ∃ y, sumS [121] = y := ⟨_, rfl⟩
  rw [hx] at hisB
  rw [hy] at hisY
  obtain ⟨xa, xl⟩ := isB_arg hisB
  obtain ⟨ya, yl⟩ := isB_arg hisY
  have hxf := okArg_iff.1 xa
  have hyf := okArg_iff.1 ya
  have hB : ¬ (32 : UInt8) ∈ c.1 := by
    rcases hoc.base with e | ⟨e, _⟩
    · rw [e]; simp
    · exact (okArg_iff.1 e).2.1
  have hF : ∀ f ∈ c.2.2.2.1, ¬ (32 : UInt8) ∈ f.1 ∧ ¬ (32 : UInt8) ∈ f.2.1 := by
    intro f hf
    obtain ⟨f1, f2, f3⟩ := hoc.files f hf
    refine ⟨(okArg_iff.1 f1).2.1, ?_⟩
    rcases f3 with e | ⟨e, _⟩
    · rw [e]; simp
    · exact (okArg_iff.1 e).2.1
  have hP : ∀ s ∈ c.2.2.2.2.1, ¬ (32 : UInt8) ∈ s := fun s hs => (okArg_iff.1 (hoc.pars s hs).1).2.1
  have hU : ¬ (32 : UInt8) ∈ c.2.2.2.2.2.2.1 := (okArg_iff.1 hoc.user).2.1
  have hdate : ∀ d : Int, ¬ (0 ≤ d ∧ d ≤ 1073741824) → ammonitelaw12_CheckinEdges.j22 K c.1 c.2.1 d c.2.2.2.1 c.2.2.2.2.1 c.2.2.2.2.2.1 c.2.2.2.2.2.2.1 = some true := by
    intro d hd
    have hsm2 : Sm (c.1, c.2.1, d, c.2.2.2.1, c.2.2.2.2.1, c.2.2.2.2.2.1, c.2.2.2.2.2.2.1, ()) := ⟨hsm.base, hsm.clen, hsm.flen, hsm.files, hsm.plen, hsm.pars, hsm.tlen, hsm.tags, hsm.user⟩
    refine edge_end' hK hK2 hsm2 ?_ fun z z1 z2 => ?_
    · unfold rightK
      have : (decide (0 ≤ d) && decide (d ≤ 1073741824)) = false := by
        by_cases h0 : 0 ≤ d
        · have : ¬ d ≤ 1073741824 := fun h => hd ⟨h0, h⟩
          simp [this]
        · simp [h0]
      simp only [this, Bool.false_and, Bool.and_false]
    · have hz := rightK_ok z1
      have := (same_parts hK hK2 (same_cards hK hK2 hz hsm2 hB hF hP hU z2)).2.1
      have h2 : decS d = [] := by unfold decS; rw [if_neg hd]
      have h3 : decS z.2.2.1 = decS d := this
      rw [h2] at h3
      exact (okArg_iff.1 (decS_arg hz.d0 hz.d1)).1 h3
  rw [ammonitelaw12_CheckinEdges.eq, show (k.1, k.2.1, k.2.2.1, (k.2.2.2.1.1, k.2.2.2.1.2.1, ()), k.2.2.2.2.1, k.2.2.2.2.2.1, k.2.2.2.2.2.2.1, k.2.2.2.2.2.2.2.1, ()) = k from rfl, c1, Option.bind_some, show (c.1, c.2.1, c.2.2.1, c.2.2.2.1, c.2.2.2.2.1, c.2.2.2.2.2.1, c.2.2.2.2.2.2.1, ()) = c from rfl, rightK_eq hK hK2 (OkChk.fits hK hK2 hoc), c2, Option.bind_some, m1, rsum_eq K (by simp), rsum_eq K (by simp), hx, hy, w1]
  simp only [Option.bind_some, Bool.not_true, cond_false]
  by_cases e0 : w = 0
  · simp only [e0, decide_true, cond_true]
    exact hdate _ (by rw [w64 (by omega) (by omega)]; omega)
  · by_cases e1 : w = 1
    · simp only [e1, show ¬ ((1 : Int) = 0) by decide, decide_true, decide_false, cond_true, cond_false]
      exact hdate _ (by rw [w64 (by omega) (by omega)]; omega)
    · by_cases e2 : w = 2
      · simp only [e2, show ¬ ((2 : Int) = 0) by decide, show ¬ ((2 : Int) = 1) by decide, decide_true, decide_false, cond_true, cond_false]
        have e40 : IntKind.wrap .i64 (40 + m) = 40 + m := w64 (by omega) (by omega)
        have t1 : decide (0 ≤ 40 + m) = true := decide_eq_true (by omega)
        have t2 : decide (40 + m ≤ 40 + m) = true := decide_eq_true (by omega)
        have t3 : decide ((40 + m) * ((1 : Nat) : Int) ≤ 140737488355328) = true := decide_eq_true (by omega)
        have t4 : decide (40 + m < 4611686018427387904) = true := decide_eq_true (by omega)
        rw [e40, t1, t2, t3, t4, chks_t, chks_t, chks_t, chks_t, chks_nil]
        have hcm : (textOf (List.replicate (Int.toNat (40 + m)) 0)).length = (40 + m).toNat := by unfold textOf; simp
        have hsm2 : Sm (c.1, textOf (List.replicate (Int.toNat (40 + m)) 0), c.2.2.1, c.2.2.2.1, c.2.2.2.2.1, c.2.2.2.2.2.1, c.2.2.2.2.2.2.1, ()) := ⟨hsm.base, by show (textOf _).length ≤ 139; rw [hcm]; omega, hsm.flen, hsm.files, hsm.plen, hsm.pars, hsm.tlen, hsm.tags, hsm.user⟩
        refine edge_end' hK hK2 hsm2 ?_ fun z z1 z2 => ?_
        · unfold rightK
          have : decide ((textOf (List.replicate (Int.toNat (40 + m)) 0)).length ≤ 40) = false := by rw [hcm]; exact decide_eq_false (by omega)
          simp only [this, Bool.false_and, Bool.and_false]
        · have hz := rightK_ok z1
          have := (same_parts hK hK2 (same_cards hK hK2 hz hsm2 hB hF hP hU z2)).1
          have h2 := hz.clen
          rw [this] at h2
          have h3 : (textOf (List.replicate (Int.toNat (40 + m)) 0)).length ≤ 40 := h2
          rw [hcm] at h3
          omega
      · by_cases e3 : w = 3
        · simp only [e3, show ¬ ((3 : Int) = 0) by decide, show ¬ ((3 : Int) = 1) by decide, show ¬ ((3 : Int) = 2) by decide, decide_true, decide_false, cond_true, cond_false]
          have hmem : ∀ s ∈ [x, y, x], s = x ∨ s = y := by intro s hs; simp at hs; rcases hs with h | h | h <;> simp [h]
          have hsm2 : Sm (c.1, c.2.1, c.2.2.1, c.2.2.2.1, [x, y, x], c.2.2.2.2.2.1, c.2.2.2.2.2.2.1, ()) := ⟨hsm.base, hsm.clen, hsm.flen, hsm.files, by simp, fun s hs => by rcases hmem s hs with rfl | rfl; exact ⟨by omega, hxf.2.2⟩; exact ⟨by omega, hyf.2.2⟩, hsm.tlen, hsm.tags, hsm.user⟩
          have hn : okNames [] [x, y, x] = false := by simp [okNames]
          refine edge_end' hK hK2 hsm2 ?_ fun z z1 z2 => ?_
          · unfold rightK
            simp only [hn, Bool.false_and, Bool.and_false]
          · have hz := rightK_ok z1
            have := (same_parts hK hK2 (same_cards hK hK2 hz hsm2 hB hF (fun s hs => by rcases hmem s hs with rfl | rfl; exact hxf.2.1; exact hyf.2.1) hU z2)).2.2.2.1
            unfold rightK at z1
            rw [this] at z1
            simp only [hn, Bool.false_and, Bool.and_false] at z1
            cases z1
        · by_cases e4 : w = 4
          · simp only [e4, show ¬ ((4 : Int) = 0) by decide, show ¬ ((4 : Int) = 1) by decide, show ¬ ((4 : Int) = 2) by decide, show ¬ ((4 : Int) = 3) by decide, decide_true, decide_false, cond_true, cond_false]
            have hsm2 : Sm (c.1, c.2.1, c.2.2.1, c.2.2.2.1, c.2.2.2.2.1, c.2.2.2.2.2.1, [], ()) := ⟨hsm.base, hsm.clen, hsm.flen, hsm.files, hsm.plen, hsm.pars, hsm.tlen, hsm.tags, by simp⟩
            have hn : wordB [] = false := by decide
            refine edge_end' hK hK2 hsm2 ?_ fun z z1 z2 => ?_
            · unfold rightK
              simp only [hn, Bool.false_and, Bool.and_false]
            · have hz := rightK_ok z1
              have := (same_parts hK hK2 (same_cards hK hK2 hz hsm2 hB hF hP (by simp) z2)).2.2.2.2.2
              have h2 := (okArg_iff.1 hz.user).1
              exact h2 this
          · by_cases e5 : w = 5
            · simp only [e5, show ¬ ((5 : Int) = 0) by decide, show ¬ ((5 : Int) = 1) by decide, show ¬ ((5 : Int) = 2) by decide, show ¬ ((5 : Int) = 3) by decide, show ¬ ((5 : Int) = 4) by decide, decide_true, decide_false, cond_true, cond_false]
              have hsm2 : Sm ([110, 111, 32, 110, 97, 109, 101], c.2.1, c.2.2.1, c.2.2.2.1, c.2.2.2.2.1, c.2.2.2.2.2.1, c.2.2.2.2.2.2.1, ()) := ⟨by show ([110, 111, 32, 110, 97, 109, 101] : List UInt8).length ≤ 200 ∧ ¬ (10 : UInt8) ∈ ([110, 111, 32, 110, 97, 109, 101] : List UInt8); decide, hsm.clen, hsm.flen, hsm.files, hsm.plen, hsm.pars, hsm.tlen, hsm.tags, hsm.user⟩
              refine edge_end' hK hK2 hsm2 ?_ fun z z1 z2 => ?_
              · unfold rightK
                have : (decide (([110, 111, 32, 110, 97, 109, 101] : List UInt8) = []) || isB [110, 111, 32, 110, 97, 109, 101]) = false := by decide
                simp only [this, Bool.false_and]
              · have hz := rightK_ok z1
                have hl := same_lines hK hK2 hz hsm2 z2
                have hm : lineW ((66, [[110, 111, 32, 110, 97, 109, 101]], ()) : DCard) ∈ (chkCards (([110, 111, 32, 110, 97, 109, 101], c.2.1, c.2.2.1, c.2.2.2.1, c.2.2.2.2.1, c.2.2.2.2.2.1, c.2.2.2.2.2.2.1, ()) : DChk)).map lineW := List.mem_map.2 ⟨_, by simp [chkCards, baseCards], rfl⟩
                rw [← hl] at hm
                obtain ⟨v, v1, v2⟩ := List.mem_map.1 hm
                have hv := (chk_cardok hz v v1).1
                have hsp := lineW_split hv
                rw [v2] at hsp
                have hs : splitL 32 (lineW ((66, [[110, 111, 32, 110, 97, 109, 101]], ()) : DCard)) = [[66], [110, 111], [110, 97, 109, 101]] := by decide
                rw [hs] at hsp
                simp only [List.cons.injEq, and_true] at hsp
                have hv66 : v.1 = 66 := (letter_byte hK hK2 (a := 66) (b := v.1) (by omega) ⟨hv.lo, hv.hi⟩ hsp.1).symm
                rcases chk_mem v1 with ⟨e, rfl⟩ | rfl | rfl | ⟨f, hf, rfl⟩ | ⟨e, rfl⟩ | ⟨t, ht, rfl⟩ | rfl
                · have := hsp.2; simp at this
                · exact absurd hv66 (by show ¬ (67 : Int) = 66; decide)
                · exact absurd hv66 (by show ¬ (68 : Int) = 66; decide)
                · exact absurd hv66 (by show ¬ (70 : Int) = 66; decide)
                · exact absurd hv66 (by show ¬ (80 : Int) = 66; decide)
                · exact absurd hv66 (by show ¬ (84 : Int) = 66; decide)
                · exact absurd hv66 (by show ¬ (85 : Int) = 66; decide)
            · by_cases e6 : w = 6
              · simp only [e6, show ¬ ((6 : Int) = 0) by decide, show ¬ ((6 : Int) = 1) by decide, show ¬ ((6 : Int) = 2) by decide, show ¬ ((6 : Int) = 3) by decide, show ¬ ((6 : Int) = 4) by decide, show ¬ ((6 : Int) = 5) by decide, decide_true, decide_false, cond_true, cond_false]
                have hmem : ∀ f ∈ [(([98] : List UInt8), x, ()), (([97] : List UInt8), x, ())], (f.1 = [98] ∨ f.1 = [97]) ∧ f.2.1 = x := by intro f hf; simp at hf; rcases hf with h | h <;> simp [h]
                have hsm2 : Sm (c.1, c.2.1, c.2.2.1, [(([98] : List UInt8), x, ()), (([97] : List UInt8), x, ())], c.2.2.2.2.1, c.2.2.2.2.2.1, c.2.2.2.2.2.2.1, ()) := ⟨hsm.base, hsm.clen, by simp, fun f hf => by
                  obtain ⟨h1, h2⟩ := hmem f hf
                  rw [h2]
                  exact ⟨by rcases h1 with h | h <;> (rw [h]; decide), by omega, hxf.2.2⟩, hsm.plen, hsm.pars, hsm.tlen, hsm.tags, hsm.user⟩
                have hn : ∀ b, okFiles b none [(([98] : List UInt8), x, ()), (([97] : List UInt8), x, ())] = false := by
                  intro b
                  have : filePrev (some (([98] : List UInt8), x, ())) (([97] : List UInt8), x, ()) = false := by show Op.bytesLess [98] [97] = false; decide
                  simp [okFiles, this]
                refine edge_end' hK hK2 hsm2 ?_ fun z z1 z2 => ?_
                · unfold rightK
                  simp only [hn, Bool.false_and, Bool.and_false]
                · have hz := rightK_ok z1
                  have := (same_parts hK hK2 (same_cards hK hK2 hz hsm2 hB (fun f hf => by
                    obtain ⟨h1, h2⟩ := hmem f hf
                    rw [h2]
                    exact ⟨by rcases h1 with h | h <;> (rw [h]; decide), hxf.2.1⟩) hP hU z2)).2.2.1
                  unfold rightK at z1
                  rw [this] at z1
                  simp only [hn, Bool.false_and, Bool.and_false] at z1
                  cases z1
              · simp only [e0, e1, e2, e3, e4, e5, e6, decide_false, cond_false]
                have ht : ∀ t ∈ [((43 : Int), ([116] : List UInt8), x, ([] : List UInt8), ())], t = ((43 : Int), ([116] : List UInt8), x, ([] : List UInt8), ()) := by intro t ht; simpa using ht
                have hta : tagArgs ((43 : Int), ([116] : List UInt8), x, ([] : List UInt8), ()) = [[43, 116], x] := by rw [tagArgs_nil rfl]; rfl
                have hsm2 : Sm (c.1, c.2.1, c.2.2.1, c.2.2.2.1, c.2.2.2.2.1, [((43 : Int), ([116] : List UInt8), x, ([] : List UInt8), ())], c.2.2.2.2.2.2.1, ()) := ⟨hsm.base, hsm.clen, hsm.flen, hsm.files, hsm.plen, hsm.pars, by simp, fun t h => by
                  rw [ht t h, hta]
                  refine ⟨⟨by simp, by show x.length ≤ 40; omega, by simp⟩, by show (0 : Int) ≤ 43; decide, by show (43 : Int) < 256; decide, by simp, fun a ha => ?_⟩
                  simp only [List.mem_cons, List.not_mem_nil, or_false] at ha
                  rcases ha with rfl | rfl
                  · decide
                  · exact ⟨hxf.2.2, hxf.2.1⟩, hsm.user⟩
                have hne : ¬ x = [42] := fun e => by rw [e] at xl; simp at xl
                have hn : rightT true [((43 : Int), ([116] : List UInt8), x, ([] : List UInt8), ())] = false := by
                  unfold rightT okTags okTag
                  simp [hne]
                refine edge_end' hK hK2 hsm2 ?_ fun z z1 z2 => ?_
                · unfold rightK
                  simp only [hn, Bool.false_and, Bool.and_false]
                · have hz := rightK_ok z1
                  have := (same_parts hK hK2 (same_cards hK hK2 hz hsm2 hB hF hP hU z2)).2.2.2.2.1
                  have h3 := congrArg tagsOf this
                  rw [tagsOf_args fun t h => (hz.tags t h).range, tagsOf_args fun t h => (hsm2.tags t h).2.imp_right fun q => ⟨q.1, q.2.1⟩] at h3
                  have h4 : z.2.2.2.2.2.1 = [((43 : Int), ([116] : List UInt8), x, ([] : List UInt8), ())] := Option.some.inj h3
                  unfold rightK at z1
                  rw [h4] at z1
                  simp only [hn, Bool.false_and, Bool.and_false] at z1
                  cases z1
end
theorem checkinComments_plain (x : (prodT [.str, .int .i64]).den) (h : Fit (prodT [.str, .int .i64]) x) : ammonitelaw12_CheckinComments.f 1000000000000000 x = some true := comments_eq (by omega) (by omega) x.1 x.2.1
theorem checkinEdges_plain (x : (prodT [TKChk, .int .i64, .int .i64]).den) (h : Fit (prodT [TKChk, .int .i64, .int .i64]) x) : ammonitelaw12_CheckinEdges.f 1000000000000000 x = some true := cedges_eq (by omega) (by omega) x.1 x.2.1 x.2.2.1
end Go.Proofs.Ytaoadbkoambjbaa.Ab
