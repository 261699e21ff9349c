/- Control artifacts of numbers: what the keep's functions give. -/
import Derived.Test.YtaoadbkoambjbaaQ3
import Derived.Test.YtaoadbkoambjbaaPlB
import Derived.Test.YtaoadbkoambjbaaAbt5
set_option linter.unusedVariables false
set_option linter.unusedSimpArgs false
set_option maxRecDepth 10000
namespace Go.Proofs.Ytaoadbkoambjbaa.Ab
open Go Go.RowKit Go.Proofs.Ytaoadbkoambjbaa.Given
theorem getD_all {α : Type} {P : α → Prop} {l : List α} {d : α} (h : ∀ x ∈ l, P x) {v : Int} (h0 : 0 ≤ v) (h1 : v < (l.length : Int)) : P (l.getD v.toNat d) := by
  have hlt : v.toNat < l.length := by omega
  rw [List.getD_eq_getElem?_getD, List.getElem?_eq_getElem hlt]
  exact h _ (List.getElem_mem hlt)
section
variable {K : Nat} (hK : 1000000 ≤ K)
include hK
theorem text_loop (pieces : List (List UInt8)) (hp : ∀ p ∈ pieces, 1 ≤ p.length ∧ p.length ≤ 30) (h8 : pieces.length = 8) (x : Int) (l : List Int) : ∀ (m k n : Nat) (out : List UInt8), 170 - out.length ≤ m → m < n → k ≤ out.length → out.length ≤ 200 →
    ∃ v : List UInt8, ammonitekeep_Text_Text.l4 K n pieces out k x l = some v ∧ v.length ≤ 200 := by
  have _hK := hK
  intro m
  induction m with
  | zero =>
    intro k n out hm hn hk ho
    obtain ⟨n, rfl⟩ : ∃ m, n = m + 1 := ⟨n - 1, by omega⟩
    rw [ammonitekeep_Text_Text.l4_succ]
    have e1 : ¬ ((out.length : Int) < 170) := by omega
    refine ⟨out, ?_, ho⟩
    by_cases e2 : (k : Int) < (l.length : Int) <;> simp [e1, e2]
  | succ m ih =>
    intro k n out hm hn hk ho
    obtain ⟨n, rfl⟩ : ∃ m, n = m + 1 := ⟨n - 1, by omega⟩
    rw [ammonitekeep_Text_Text.l4_succ]
    by_cases e2 : (k : Int) < (l.length : Int)
    · by_cases e1 : (out.length : Int) < 170
      · obtain ⟨v, v1, v2, v3⟩ := within_eq K (n := IntKind.wrap .i64 (l.getD (Int.toNat k) (DTy.dflt (.int .i64)) + bit2 .and .i64 x 1)) (lo := 0) (hi := 7) (by omega) (by omega) (by omega)
        have h7 : IntKind.wrap .i64 ((pieces.length : Int) - 1) = 7 := by rw [h8]; exact w64 (by omega) (by omega)
        have h0 : (0 : Int) ≤ (k : Int) := Int.natCast_nonneg k
        have h3 : v < (pieces.length : Int) := by rw [h8]; omega
        obtain ⟨p1, p2⟩ := getD_all (d := DTy.dflt .str) hp v2 h3
        simp only [e1, e2, h0, h7, decide_true, cond_true, chks_t, chks_nil, v1, Option.bind_some, v2, h3]
        rw [catOk_t (by omega), chks_t, chks_nil, wS (by omega)]
        exact ih (k + 1) n _ (by rw [List.length_append]; omega) (by omega) (by rw [List.length_append]; omega) (by rw [List.length_append]; omega)
      · exact ⟨out, by simp [e1, e2], ho⟩
    · exact ⟨out, by simp [e2], ho⟩
theorem text_eq (x : Int) (l : List Int) : ∃ v : List UInt8, ammonitekeep_Text_Text.f K (((x, l, ()), ()) : (Int × List Int × Unit) × Unit) = some v ∧ v.length ≤ 200 := by
  rw [ammonitekeep_Text_Text.eq]
  exact text_loop hK _ (by decide) rfl x l 170 0 K [] (by simp) (by omega) (by simp) (by simp)
theorem long_eq (x : Int) (l : List Int) (m : Int) : ∃ v : List UInt8, ammonitekeep_Long.f K (((x, l, ()), m, ()) : (Int × List Int × Unit) × Int × Unit) = some v ∧ v.length ≤ 300 := by
  obtain ⟨v, v1, v2⟩ := text_eq hK x l
  obtain ⟨k, k1, k2, k3⟩ := within_eq K (n := m) (lo := 0) (hi := 2) (by omega) (by omega) (by omega)
  rw [ammonitekeep_Long.eq]
  rw [show ((x, l, ()).1, (x, l, ()).2.1, ()) = (x, l, ()) from rfl, v1, Option.bind_some, k1, Option.bind_some]
  have hm1 := min_lo (m := 160) v.length (by omega)
  have hm2 := min_hi 160 v.length
  have hall : ∀ L : List (List UInt8), L.length = 3 → (∀ p ∈ L, p.length ≤ 100) → ∃ w : List UInt8,
      (chks [decide (0 ≤ k), decide (k < (L.length : Int))] (chks [decide ((0 : Int) ≤ (if (160 : Int) < (v.length : Int) then (160 : Int) else (v.length : Int))), decide ((if (160 : Int) < (v.length : Int) then (160 : Int) else (v.length : Int)) ≤ (v.length : Int))]
        (chks [catOk (L.getD k.toNat (DTy.dflt .str)) (cutL v none (some (if (160 : Int) < (v.length : Int) then (160 : Int) else (v.length : Int))))] (some (L.getD k.toNat (DTy.dflt .str) ++ cutL v none (some (if (160 : Int) < (v.length : Int) then (160 : Int) else (v.length : Int)))))))) = some w ∧ w.length ≤ 300 := by
    intro L hL hp
    have h1 : k < (L.length : Int) := by omega
    have hq := getD_all (d := DTy.dflt .str) hp k2 h1
    simp only [k2, h1, hm1, hm2, decide_true, chks_t, chks_nil, cut_min v (show (0 : Int) ≤ 160 by omega)]
    have ht : (v.take 160).length ≤ 160 := by rw [List.length_take]; omega
    have hq' : (L.getD k.toNat (DTy.dflt .str)).length ≤ 100 := hq
    refine ⟨_, by rw [catOk_t (by show _ + (v.take 160).length < _; omega), chks_t, chks_nil], ?_⟩
    rw [List.length_append]
    show _ + (v.take 160).length ≤ _
    omega
  exact hall _ rfl (by decide)
theorem content_eq (n : Int) : ∃ v : List UInt8, ammonitekeep_Content.f K ((n, ()) : Int × Unit) = some v ∧ v.length ≤ 300 := by
  obtain ⟨k, k1, k2, k3⟩ := within_eq K (n := n) (lo := 0) (hi := 15) (by omega) (by omega) (by omega)
  obtain ⟨v, v1, v2⟩ := long_eq hK 0 [k, IntKind.wrap .i64 (Int.tdiv k 2), IntKind.wrap .i64 (Int.tdiv k 4)] (Int.tmod k 3)
  exact ⟨v, by rw [ammonitekeep_Content.eq, k1, Option.bind_some, v1]; rfl, v2⟩
theorem name_eq (n : Int) : ∃ v : List UInt8, ammonitekeep_Name.f K ((n, ()) : Int × Unit) = some v ∧ isB v = true := by
  obtain ⟨v, v1, v2⟩ := content_eq hK n
  exact ⟨sumS v, by rw [ammonitekeep_Name.eq, v1, Option.bind_some, rsum_eq K (by omega)]; rfl, sum_isB v⟩
theorem pick_eq (l : List Int) (i : Nat) : ∃ v : Int, ammonitekeep_pick.f K ((l, (i : Int), ()) : List Int × Int × Unit) = some v := by
  have _hK := hK
  rw [ammonitekeep_pick.eq]
  by_cases h : l.length = 0
  · exact ⟨0, by simp [h]⟩
  · have e : ¬ ((l.length : Int) = 0) := by omega
    have h1 : 0 ≤ Int.tmod (i : Int) (l.length : Int) := Int.tmod_nonneg _ (by omega)
    have h2 : Int.tmod (i : Int) (l.length : Int) < (l.length : Int) := Int.tmod_lt_of_pos _ (by omega)
    simp only [e, h1, h2, decide_true, decide_false, cond_false, Bool.not_false, chks_t, chks_nil]
    exact ⟨_, rfl⟩
end
def rise (a b : List UInt8) : Bool := Op.bytesLess a b && !decide (a = b)
def lastOr (p : Option DTag) : List DTag → Option DTag
  | [] => p
  | t :: r => lastOr (some t) r
theorem lastOr_cases : ∀ (l : List DTag) (p : Option DTag), (l = [] ∧ lastOr p l = p) ∨ ∃ x ∈ l, lastOr p l = some x := by
  intro l
  induction l with
  | nil => intro p; exact Or.inl ⟨rfl, rfl⟩
  | cons t l ih =>
    intro p
    rcases ih (some t) with ⟨_, h2⟩ | ⟨x, hx, h2⟩
    · exact Or.inr ⟨t, List.mem_cons_self, h2⟩
    · exact Or.inr ⟨x, List.mem_cons_of_mem _ hx, h2⟩
theorem okTags_snoc (own : Bool) (t : DTag) : ∀ (l : List DTag) (p : Option DTag), okTags own p (l ++ [t]) = (okTags own p l && (okTag own t && tagPrev (lastOr p l) t)) := by
  intro l
  induction l with
  | nil => intro p; simp [okTags, lastOr]
  | cons x l ih => intro p; rw [List.cons_append, okTags, okTags, ih, lastOr]; simp only [Bool.and_assoc]
def wordsW : List (List UInt8) := [[97], [98, 114, 97, 110, 99, 104], [99, 46, 116, 120, 116], [100, 47, 101], [114, 101, 108, 45, 49], [122, 122]]
theorem wordsW_rise : wordsW.Pairwise fun a b => rise a b = true := by decide
theorem wordsW_ok : ∀ w ∈ wordsW, wordB w = true := by decide
theorem tagPrev_rise {p t : DTag} (h : rise p.2.1 t.2.1 = true) : tagPrev (some p) t = true := by
  unfold rise at h
  show ((Op.bytesLess p.2.1 t.2.1 || decide (p.2.1 = t.2.1)) && (!decide (p.2.1 = t.2.1) || Op.bytesLess p.2.2.1 t.2.2.1)) = true
  revert h
  generalize Op.bytesLess p.2.1 t.2.1 = a
  generalize decide (p.2.1 = t.2.1) = b
  generalize Op.bytesLess p.2.2.1 t.2.2.1 = c
  cases a <;> cases b <;> cases c <;> decide
section
variable {K : Nat} (hK : 1000000 ≤ K)
include hK
theorem tagOps_loop (tags vals : List Int) (own : Bool) (t : Int) (ht : t = (wordsW.length : Int)) : ∀ (r : List (List UInt8)) (k n : Nat) (out : List DTag), wordsW.drop k = r → k ≤ wordsW.length → r.length < n → okTags own none out = true → out.length ≤ 3 → (∀ x ∈ out, ∀ w ∈ r, rise x.2.1 w = true) →
    ∃ ts : List DTag, ammonitekeep_tagOps.l3 K n tags vals own out wordsW t k = some ts ∧ okTags own none ts = true ∧ ts.length ≤ 3 := by
  subst ht
  intro r
  induction r with
  | nil =>
    intro k n out hd hk hn h1 h2 h3
    have := drop_nil hd hk
    subst this
    obtain ⟨n, rfl⟩ : ∃ m, n = m + 1 := ⟨n - 1, by omega⟩
    rw [ammonitekeep_tagOps.l3_succ]
    exact ⟨out, by simp, h1, h2⟩
  | cons w r ih =>
    intro k n out hd hk hn h1 h2 h3
    obtain ⟨n, rfl⟩ : ∃ m, n = m + 1 := ⟨n - 1, by omega⟩
    simp only [List.length_cons] at hn
    obtain ⟨hg, hlt, hd'⟩ := getD_drop (d := DTy.dflt .str) hd
    have hk6 : wordsW.length = 6 := rfl
    have hw : wordB w = true := wordsW_ok w (List.mem_of_mem_drop (i := k) (by rw [hd]; exact List.mem_cons_self))
    have hrise : ∀ w' ∈ r, rise w w' = true := by
      have := wordsW_rise.drop (i := k)
      rw [hd] at this
      exact (List.pairwise_cons.1 this).1
    have hnext : ∀ out : List DTag, okTags own none out = true → out.length ≤ 3 → (∀ x ∈ out, ∀ w' ∈ r, rise x.2.1 w' = true) →
        ∃ ts : List DTag, ammonitekeep_tagOps.r3 K n (ammonitekeep_tagOps.m3 tags vals own out wordsW (wordsW.length : Int) ((k + 1 : Nat) : Int)) = some ts ∧ okTags own none ts = true ∧ ts.length ≤ 3 := fun out a b c => ih (k + 1) n out hd' (by omega) (by omega) a b c
    have h14 : ∀ t : DTag, t.2.1 = w → okTag own t = true → out.length ≤ 2 → ∃ ts : List DTag, ammonitekeep_tagOps.j14 K (ammonitekeep_tagOps.r3 K n) tags vals own out wordsW (wordsW.length : Int) (k : Int) t.1 t.2.1 t.2.2.1 t.2.2.2.1 = some ts ∧ okTags own none ts = true ∧ ts.length ≤ 3 := by
      intro t tn tk hl
      rw [ammonitekeep_tagOps.j14_eq (by omega), growOk_t (by omega) (by simp; omega), chks_t, chks_nil, wS (by omega)]
      refine hnext (out ++ [t]) ?_ (by simp; omega) ?_
      · rw [okTags_snoc, h1, tk]
        rcases lastOr_cases out none with ⟨_, e⟩ | ⟨x, hx, e⟩
        · rw [e]; rfl
        · rw [e, tagPrev_rise (by rw [tn]; exact h3 x hx w List.mem_cons_self)]; rfl
      · intro x hx w' hw'
        rcases List.mem_append.1 hx with hx | hx
        · exact h3 x hx w' (List.mem_cons_of_mem _ hw')
        · simp at hx; subst hx; rw [tn]; exact hrise w' hw'
    have h12 : ∀ kind : Int, (kind = 43 ∨ kind = 42 ∨ kind = 45) → ∀ target : List UInt8, (if own then decide (target = [42]) else isB target) = true → out.length ≤ 2 →
        ∃ ts : List DTag, ammonitekeep_tagOps.j12 K (ammonitekeep_tagOps.r3 K n) tags vals own out (k : Int) wordsW (wordsW.length : Int) (k : Int) kind w target [] = some ts ∧ okTags own none ts = true ∧ ts.length ≤ 3 := by
      intro kind hkind target htar hl
      obtain ⟨v1, e1⟩ := pick_eq hK vals k
      obtain ⟨v2, e2, e3, e4⟩ := within_eq K (n := v1) (lo := 0) (hi := 3) (by omega) (by omega) (by omega)
      rw [ammonitekeep_tagOps.j12_eq (by omega), e1]
      by_cases c45 : kind = 45
      · rw [show (!decide (kind = 45)) = false by simp [c45], cond_false]
        exact h14 (kind, w, target, [], ()) rfl (by unfold okTag okKind; simp only [htar, hw, c45]; rfl) hl
      · rw [show (!decide (kind = 45)) = true by simp [c45], cond_true, Option.bind_some, e2, Option.bind_some]
        have hv : ∀ L : List (List UInt8), L.length = 4 → (∀ p ∈ L, p.length ≤ 12) → ∃ ts : List DTag, (chks [decide (0 ≤ v2), decide (v2 < (L.length : Int))] (ammonitekeep_tagOps.j14 K (ammonitekeep_tagOps.r3 K n) tags vals own out wordsW (wordsW.length : Int) (k : Int) kind w target (L.getD v2.toNat (DTy.dflt .str)))) = some ts ∧ okTags own none ts = true ∧ ts.length ≤ 3 := by
          intro L hL hp
          have b1 : v2 < (L.length : Int) := by omega
          have hq : (L.getD v2.toNat (DTy.dflt .str)).length ≤ 12 := getD_all (d := DTy.dflt .str) hp e3 b1
          simp only [e3, b1, decide_true, chks_t, chks_nil]
          refine h14 (kind, w, target, L.getD v2.toNat (DTy.dflt .str), ()) rfl ?_ hl
          unfold okTag okKind
          simp only [htar, hw, hq, decide_true, Bool.and_true]
          rcases hkind with rfl | rfl | rfl
          · rfl
          · rfl
          · exact absurd rfl c45
        exact hv _ rfl (by decide)
    have h8 : ∀ v : Int, 0 ≤ v → v ≤ 7 → ∃ ts : List DTag, ammonitekeep_tagOps.j8 K (ammonitekeep_tagOps.r3 K n) tags vals own out (k : Int) w v wordsW (wordsW.length : Int) (k : Int) = some ts ∧ okTags own none ts = true ∧ ts.length ≤ 3 := by
      intro v v1 v2
      have hsame := hnext out h1 h2 fun x hx w' hw' => h3 x hx w' (List.mem_cons_of_mem _ hw')
      rw [ammonitekeep_tagOps.j8_eq (by omega), wS (by omega)]
      by_cases e1 : v < 4
      · simp only [e1, decide_true, cond_true]; exact hsame
      · by_cases e2 : (2 : Int) < (out.length : Int)
        · simp only [e1, e2, decide_true, decide_false, cond_true, cond_false]; exact hsame
        · have e3 : IntKind.wrap .i64 (v - 4) = v - 4 := w64 (by omega) (by omega)
          have e4 : 0 ≤ v - 4 := by omega
          have e5 : v - 4 < (([43, 42, 45, 42] : List UInt8).length : Int) := by simp only [List.length_cons, List.length_nil]; omega
          have hkind : ((([43, 42, 45, 42] : List UInt8).getD (v - 4).toNat 0).toNat : Int) = 43 ∨ ((([43, 42, 45, 42] : List UInt8).getD (v - 4).toNat 0).toNat : Int) = 42 ∨ ((([43, 42, 45, 42] : List UInt8).getD (v - 4).toNat 0).toNat : Int) = 45 :=
            getD_all (P := fun c : UInt8 => (c.toNat : Int) = 43 ∨ (c.toNat : Int) = 42 ∨ (c.toNat : Int) = 45) (d := 0) (l := [43, 42, 45, 42]) (by decide) e4 e5
          simp only [e1, e2, e3, e4, e5, decide_true, decide_false, cond_false, chks_t, chks_nil]
          cases own with
          | true => exact h12 _ hkind [42] rfl (by omega)
          | false =>
            obtain ⟨p, p1⟩ := pick_eq hK vals k
            obtain ⟨m, m1, m2⟩ := name_eq hK p
            rw [Bool.not_false, cond_true, p1, Option.bind_some, m1, Option.bind_some]
            exact h12 _ hkind m m2 (by omega)
    rw [ammonitekeep_tagOps.l3_succ]
    have hlt' : (k : Int) < (wordsW.length : Int) := by omega
    simp only [hlt', Int.natCast_nonneg, decide_true, cond_true, chks_t, chks_nil, Int.toNat_natCast, hg]
    by_cases e1 : (k : Int) < (tags.length : Int)
    · obtain ⟨v, v1, v2, v3⟩ := within_eq K (n := tags.getD k (DTy.dflt (.int .i64))) (lo := 0) (hi := 7) (by omega) (by omega) (by omega)
      simp only [e1, decide_true, cond_true, chks_t, chks_nil, v1, Option.bind_some]
      exact h8 v v2 v3
    · simp only [e1, decide_false, cond_false]
      exact h8 0 (by omega) (by omega)
theorem tagOps_eq (tags vals : List Int) (own : Bool) : ∃ ts : List DTag, ammonitekeep_tagOps.f K ((tags, vals, own, ()) : List Int × List Int × Bool × Unit) = some ts ∧ okTags own none ts = true ∧ ts.length ≤ 3 := by
  rw [ammonitekeep_tagOps.eq, ammonitekeep_words.eq, Option.bind_some]
  exact tagOps_loop hK tags vals own _ rfl wordsW 0 K [] rfl (Nat.zero_le _) (by show 6 < K; omega) rfl (by simp) (fun x hx => by cases hx)
end
theorem nameC_free {c : UInt8} (h : nameC c = true) : c ≠ 32 ∧ c ≠ 10 := by
  unfold nameC at h
  constructor <;> (intro e; subst e; revert h; decide)
theorem wordB_arg {s : List UInt8} (h : wordB s = true) : okArg s = true ∧ s.length ≤ 12 := by
  unfold wordB at h
  simp only [Bool.and_eq_true, List.all_eq_true, decide_eq_true_eq] at h
  refine ⟨okArg_iff.2 ⟨fun e => by rw [e] at h; simp at h, fun hm => (nameC_free (h.1 _ hm)).1 rfl, fun hm => (nameC_free (h.1 _ hm)).2 rfl⟩, h.2.2⟩
theorem isB_arg {s : List UInt8} (h : isB s = true) : okArg s = true ∧ s.length = 40 := by
  unfold isB at h
  simp only [Bool.and_eq_true, List.all_eq_true, decide_eq_true_eq] at h
  refine ⟨okArg_iff.2 ⟨fun e => by rw [e] at h; simp at h, fun hm => (hexB_ne (h.1 _ hm)).1 rfl, fun hm => (hexB_ne (h.1 _ hm)).2 rfl⟩, h.2⟩
theorem decS_arg {n : Int} (h0 : 0 ≤ n) (h1 : n ≤ 1073741824) : okArg (decS n) = true := by
  refine okArg_iff.2 ⟨?_, (decS_free n).1, (decS_free n).2⟩
  unfold decS
  rw [if_pos ⟨h0, h1⟩]
  intro e
  have := decN_pos n.toNat
  rw [e] at this
  simp at this
structure OkT (own : Bool) (t : DTag) : Prop where
  kind : t.1 = 43 ∨ t.1 = 42 ∨ t.1 = 45
  name : okArg t.2.1 = true
  nlen : t.2.1.length ≤ 12
  target : okArg t.2.2.1 = true
  tlen : t.2.2.1.length ≤ 40
  vlen : t.2.2.2.1.length ≤ 12
theorem okTag_ok {own : Bool} {t : DTag} (h : okTag own t = true) : OkT own t := by
  unfold okTag okKind at h
  simp only [Bool.and_eq_true, Bool.or_eq_true, decide_eq_true_eq] at h
  obtain ⟨h1, h2, h3, h4⟩ := h
  obtain ⟨n1, n2⟩ := wordB_arg h2
  have htar : okArg t.2.2.1 = true ∧ t.2.2.1.length ≤ 40 := by
    cases own with
    | true =>
      have h4 : t.2.2.1 = [42] := by simpa using h4
      rw [h4]
      exact ⟨by decide, by decide⟩
    | false =>
      have h4 : isB t.2.2.1 = true := h4
      have := isB_arg h4
      exact ⟨this.1, by omega⟩
  exact ⟨by rcases h1 with h | h | h; exact Or.inl h; exact Or.inr (Or.inl h); exact Or.inr (Or.inr h.1), n1, n2, htar.1, htar.2, h3⟩
theorem okTags_mem {own : Bool} : ∀ {l : List DTag} {p : Option DTag}, okTags own p l = true → ∀ t ∈ l, OkT own t := by
  intro l
  induction l with
  | nil => intro p _ t ht; cases ht
  | cons x l ih =>
    intro p h t ht
    rw [okTags] at h
    simp only [Bool.and_eq_true] at h
    cases ht with
    | head => exact okTag_ok h.1
    | tail _ ht => exact ih h.2.2 t ht
theorem OkT.range {own : Bool} {t : DTag} (h : OkT own t) : 0 ≤ t.1 ∧ t.1 < 256 ∧ t.2.1 ≠ [] := by
  refine ⟨?_, ?_, (okArg_iff.1 h.name).1⟩ <;> (rcases h.kind with e | e | e <;> omega)
theorem OkT.card {own : Bool} {t : DTag} (h : OkT own t) : OkC (tagCard t) ∧ (tagCard t).2.1.length ≤ 3 ∧ ∀ a ∈ (tagCard t).2.1, a.length ≤ 40 := by
  obtain ⟨n1, n2, n3⟩ := okArg_iff.1 h.name
  have hk : okArg (UInt8.ofNat t.1.toNat :: t.2.1) = true := by
    refine okArg_iff.2 ⟨by simp, ?_, ?_⟩
    · intro hm
      rcases List.mem_cons.1 hm with e | hm
      · rcases h.kind with k | k | k <;> (rw [k] at e; revert e; decide)
      · exact n2 hm
    · intro hm
      rcases List.mem_cons.1 hm with e | hm
      · rcases h.kind with k | k | k <;> (rw [k] at e; revert e; decide)
      · exact n3 hm
  have hl : (UInt8.ofNat t.1.toNat :: t.2.1).length ≤ 40 := by have := h.nlen; simp only [List.length_cons]; omega
  by_cases hv : t.2.2.2.1 = []
  · have e : (tagCard t).2.1 = [UInt8.ofNat t.1.toNat :: t.2.1, t.2.2.1] := tagArgs_nil hv
    refine ⟨⟨by show (65 : Int) ≤ 84; decide, by show (84 : Int) ≤ 89; decide, fun a ha => ?_⟩, by rw [e]; simp, fun a ha => ?_⟩
    · rw [e] at ha
      simp only [List.mem_cons, List.not_mem_nil, or_false] at ha
      rcases ha with rfl | rfl
      · exact hk
      · exact h.target
    · rw [e] at ha
      simp only [List.mem_cons, List.not_mem_nil, or_false] at ha
      rcases ha with rfl | rfl
      · exact hl
      · exact h.tlen
  · have e : (tagCard t).2.1 = [UInt8.ofNat t.1.toNat :: t.2.1, t.2.2.1] ++ [escS t.2.2.2.1] := tagArgs_ne hv
    have he : okArg (escS t.2.2.2.1) = true := by
      refine okArg_iff.2 ⟨?_, (escS_free _).1, (escS_free _).2⟩
      intro e
      have := unesc_escS t.2.2.2.1
      rw [e] at this
      have h0 : unesc [] = some [] := by simp [unesc]
      rw [h0] at this
      exact hv (Option.some.inj this).symm
    refine ⟨⟨by show (65 : Int) ≤ 84; decide, by show (84 : Int) ≤ 89; decide, fun a ha => ?_⟩, by rw [e]; simp, fun a ha => ?_⟩
    · rw [e] at ha
      simp only [List.mem_append, List.mem_cons, List.not_mem_nil, or_false] at ha
      rcases ha with (rfl | rfl) | rfl
      · exact hk
      · exact h.target
      · exact he
    · rw [e] at ha
      simp only [List.mem_append, List.mem_cons, List.not_mem_nil, or_false] at ha
      rcases ha with (rfl | rfl) | rfl
      · exact hl
      · exact h.tlen
      · have := escS_len t.2.2.2.1; have := h.vlen; omega
theorem rightT_mem {own : Bool} {l : List DTag} (h : rightT own l = true) : l.length ≤ 12 ∧ ∀ t ∈ l, OkT own t := by
  unfold rightT at h
  simp only [Bool.and_eq_true, decide_eq_true_eq] at h
  exact ⟨h.2, okTags_mem h.1⟩
instance : DecidableEq DTag := inferInstance
end Go.Proofs.Ytaoadbkoambjbaa.Ab
