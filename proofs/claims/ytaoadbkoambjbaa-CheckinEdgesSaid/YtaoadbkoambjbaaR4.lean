/- Check-ins of numbers; CheckinRuns, CheckinTells. -/
import Derived.Test.YtaoadbkoambjbaaR3
import Derived.Test.YtaoadbkoambjbaaAbt8
set_option linter.unusedVariables false
set_option linter.unusedSimpArgs false
set_option linter.unusedSectionVars false
set_option maxRecDepth 10000
namespace Go.Proofs.Ytaoadbkoambjbaa.Ab
open Go Go.RowKit Go.Proofs.Ytaoadbkoambjbaa.Given
abbrev DText : Type := Int × ((List Int) × Unit)
abbrev DKChk : Type := Int × (Int × (Int × (DText × ((List Int) × ((List Int) × ((List Int) × ((List Int) × Unit)))))))
def lastF (p : Option DFile) : List DFile → Option DFile
  | [] => p
  | t :: r => lastF (some t) r
theorem lastF_cases : ∀ (l : List DFile) (p : Option DFile), (l = [] ∧ lastF p l = p) ∨ ∃ x ∈ l, lastF p l = some x := by
  intro l
  induction l with
  | nil => intro p; exact Or.inl ⟨rfl, rfl⟩
  | cons t l ih =>
    intro p
    rcases ih (some t) with ⟨_, h2⟩ | ⟨x, hx, h2⟩
    · exact Or.inr ⟨t, List.mem_cons_self, h2⟩
    · exact Or.inr ⟨x, List.mem_cons_of_mem _ hx, h2⟩
theorem okFiles_snoc (w : Bool) (t : DFile) : ∀ (l : List DFile) (p : Option DFile), okFiles w p (l ++ [t]) = (okFiles w p l && (okFile w t && filePrev (lastF p l) t)) := by
  intro l
  induction l with
  | nil => intro p; simp [okFiles, lastF]
  | cons x l ih => intro p; rw [List.cons_append, okFiles, okFiles, ih, lastF]; simp only [Bool.and_assoc]
theorem rise_less {a b : List UInt8} (h : rise a b = true) : Op.bytesLess a b = true := by
  unfold rise at h
  simp only [Bool.and_eq_true] at h
  exact h.1
section
variable {K : Nat} (hK : 1000000 ≤ K) (hK2 : K < 4611686018427387904)
include hK hK2
def KeptK (r : Option DChk) : Prop := ∃ c, r = some c ∧ rightK c = true
theorem kc_par (k : DKChk) (z0 z1 : List UInt8) (z2 : Int) (z6 : List UInt8) (b cm : List UInt8) (d : Int) (fs : List DFile) (u : List UInt8) (hb : b = [] ∨ isB b = true) (hcm : cm.length ≤ 40) (hd : 0 ≤ d ∧ d ≤ 9) (hf : okFiles (decide (b = [])) none fs = true) (hfl : fs.length ≤ 12) (hu : wordB u = true) :
    ∀ (m i n : Nat) (ps : List (List UInt8)), i + m = 2 → m < n → ps.length ≤ i → okNames [] ps = true →
    KeptK (ammonitekeep_Checkin_Checkin.l16 K n i k.1 k.2.1 k.2.2.1 k.2.2.2.1.1 k.2.2.2.1.2.1 k.2.2.2.2.1 k.2.2.2.2.2.1 k.2.2.2.2.2.2.1 k.2.2.2.2.2.2.2.1 z0 z1 z2 z6 b cm d fs ps u) := by
  have _h2 := hK2
  have hend : ∀ ps : List (List UInt8), ps.length ≤ 2 → okNames [] ps = true → KeptK ((ammonitekeep_tagOps.f K ((k.2.2.2.2.2.2.1, k.2.2.2.2.2.2.2.1, true, ()) : List Int × List Int × Bool × Unit)).bind fun v_2 => some (b, cm, d, fs, ps, v_2, u, ())) := by
    intro ps hps hn
    obtain ⟨ts, t1, t2, t3⟩ := tagOps_eq hK k.2.2.2.2.2.2.1 k.2.2.2.2.2.2.2.1 true
    refine ⟨(b, cm, d, fs, ps, ts, u, ()), by rw [t1]; rfl, ?_⟩
    unfold rightK rightT
    have e1 : (decide (b = []) || isB b) = true := by rcases hb with e | e <;> simp [e]
    have e2 : decide (cm.length ≤ 40) = true := decide_eq_true hcm
    have e3 : decide (0 ≤ d) = true := decide_eq_true hd.1
    have e4 : decide (d ≤ 1073741824) = true := decide_eq_true (by omega)
    have e5 : decide (fs.length ≤ 12) = true := decide_eq_true hfl
    have e6 : decide (ps.length ≤ 3) = true := decide_eq_true (by omega)
    have e7 : decide (ts.length ≤ 12) = true := decide_eq_true (by omega)
    simp only [e1, e2, e3, e4, e5, e6, e7, hf, hn, t2, hu]
    rfl
  intro m
  induction m with
  | zero =>
    intro i n ps hi hn hps hnm
    obtain ⟨n, rfl⟩ : ∃ m, n = m + 1 := ⟨n - 1, by omega⟩
    obtain rfl : i = 2 := by omega
    rw [ammonitekeep_Checkin_Checkin.l16_succ]
    have e : decide (((2 : Nat) : Int) < 2) = false := rfl
    simp only [e, cond_false]
    cases decide (((2 : Nat) : Int) < (k.2.2.2.2.2.1.length : Int))
    · exact hend ps hps hnm
    · exact hend ps hps hnm
  | succ m ih =>
    intro i n ps hi hn hps hnm
    obtain ⟨n, rfl⟩ : ∃ m, n = m + 1 := ⟨n - 1, by omega⟩
    rw [ammonitekeep_Checkin_Checkin.l16_succ]
    have e : decide ((i : Int) < 2) = true := decide_eq_true (by omega)
    simp only [e, cond_true]
    by_cases h1 : (i : Int) < (k.2.2.2.2.2.1.length : Int)
    · obtain ⟨p, p1, p2⟩ := name_eq hK (k.2.2.2.2.2.1.getD i (DTy.dflt (.int .i64)))
      have ihn := fun ps' h h2 => ih (i + 1) n ps' (by omega) (by omega) h h2
      simp only [h1, Int.natCast_nonneg, decide_true, cond_true, chks_t, chks_nil, Int.toNat_natCast, p1, Option.bind_some]
      rw [wS (by omega)]
      match ps, hps, hnm with
      | [], hps, hnm =>
        have e0 : decide ((([] : List (List UInt8)).length : Int) = 0) = true := rfl
        simp only [e0, cond_true]
        rw [growOk_t (by omega) (by simp), chks_t, chks_nil]
        exact ihn [p] (by simp) (by simp [okNames, p2])
      | [a], hps, hnm =>
        have e0 : decide ((([a] : List (List UInt8)).length : Int) = 0) = false := rfl
        have e1 : decide ((0 : Int) < (([a] : List (List UInt8)).length : Int)) = true := rfl
        have e2 : ([a] : List (List UInt8)).getD (Int.toNat 0) (DTy.dflt .str) = a := rfl
        have hi1 : 1 ≤ i := hps
        have ha : isB a = true := by simpa [okNames] using hnm
        simp only [e0, e1, e2, cond_false, chks_t, chks_nil]
        by_cases e3 : a = p
        · simp only [e3, decide_true, Bool.not_true, cond_false]
          rw [e3] at hnm
          exact ihn [p] (by simp) hnm
        · simp only [e3, decide_false, Bool.not_false, cond_true]
          rw [growOk_t (by omega) (by simp), chks_t, chks_nil]
          refine ihn [a, p] (by simp; omega) ?_
          have : ¬ p = a := fun e => e3 e.symm
          simp [okNames, ha, p2, this]
      | a :: c :: r, hps, _ => simp only [List.length_cons] at hps; omega
    · simp only [h1, decide_false, cond_false]
      exact hend ps (by omega) hnm
theorem kc_files (k : DKChk) (z0 z1 : List UInt8) (z2 : Int) (z6 : List UInt8) (b cm : List UInt8) (d : Int) (u : List UInt8) (hb : b = [] ∨ isB b = true) (hcm : cm.length ≤ 40) (hd : 0 ≤ d ∧ d ≤ 9) (hu : wordB u = true) (t : Int) (ht : t = (wordsW.length : Int)) :
    ∀ (r : List (List UInt8)) (i n : Nat) (fs : List DFile), wordsW.drop i = r → i ≤ wordsW.length → r.length < n → okFiles (decide (b = [])) none fs = true → fs.length ≤ 2 → (∀ x ∈ fs, ∀ w ∈ r, rise x.1 w = true) →
    KeptK (ammonitekeep_Checkin_Checkin.l7 K n wordsW t i k.1 k.2.1 k.2.2.1 k.2.2.2.1.1 k.2.2.2.1.2.1 k.2.2.2.2.1 k.2.2.2.2.2.1 k.2.2.2.2.2.2.1 k.2.2.2.2.2.2.2.1 z0 z1 z2 z6 b cm d fs u) := by
  subst ht
  intro r
  induction r with
  | nil =>
    intro i n fs hd' hi hn h1 h2 h3
    have := drop_nil hd' hi
    subst this
    obtain ⟨n, rfl⟩ : ∃ m, n = m + 1 := ⟨n - 1, by omega⟩
    rw [ammonitekeep_Checkin_Checkin.l7_succ]
    simp only [Int.lt_irrefl, decide_false, cond_false]
    exact kc_par hK hK2 k z0 z1 z2 z6 b cm d fs u hb hcm hd h1 (by omega) hu 2 0 K [] (by omega) (by omega) (by simp) rfl
  | cons w r ih =>
    intro i n fs hd' hi hn h1 h2 h3
    obtain ⟨n, rfl⟩ : ∃ m, n = m + 1 := ⟨n - 1, by omega⟩
    simp only [List.length_cons] at hn
    obtain ⟨hg, hlt, hd2⟩ := getD_drop (d := DTy.dflt .str) hd'
    have hk6 : wordsW.length = 6 := rfl
    have hw : wordB w = true := wordsW_ok w (List.mem_of_mem_drop (i := i) (by rw [hd']; exact List.mem_cons_self))
    have hrise : ∀ w' ∈ r, rise w w' = true := by
      have := wordsW_rise.drop (i := i)
      rw [hd'] at this
      exact (List.pairwise_cons.1 this).1
    have hnext : ∀ fs : List DFile, okFiles (decide (b = [])) none fs = true → fs.length ≤ 2 → (∀ x ∈ fs, ∀ w' ∈ r, rise x.1 w' = true) → _ := fun fs a c e => ih (i + 1) n fs hd2 (by omega) (by omega) a c e
    have hsame := hnext fs h1 h2 fun x hx w' hw' => h3 x hx w' (List.mem_cons_of_mem _ hw')
    have hadd : ∀ h : List UInt8, (isB h = true ∨ (b ≠ [] ∧ h = [])) → fs.length ≤ 1 → _ := fun h hh hl => hnext (fs ++ [(w, h, ())]) (by
        have hof : okFile (decide (b = [])) (w, h, ()) = true := by
          unfold okFile
          rcases hh with e | ⟨e1, e2⟩
          · simp [hw, e]
          · simp [hw, e1, e2]
        rw [okFiles_snoc, h1, hof]
        rcases lastF_cases fs none with ⟨_, e⟩ | ⟨x, hx, e⟩
        · rw [e]; rfl
        · rw [e]
          show (true && (true && Op.bytesLess x.1 w)) = true
          rw [rise_less (h3 x hx w List.mem_cons_self)]
          rfl) (by rw [List.length_append]; simp; omega) (by
        intro x hx w' hw'
        rcases List.mem_append.1 hx with hx | hx
        · exact h3 x hx w' (List.mem_cons_of_mem _ hw')
        · simp at hx; rw [hx]; exact hrise w' hw')
    rw [ammonitekeep_Checkin_Checkin.l7_succ]
    have hlt' : (i : Int) < (wordsW.length : Int) := by omega
    simp only [hlt', Int.natCast_nonneg, decide_true, cond_true, chks_t, chks_nil, Int.toNat_natCast, hg, wS (show i < 4611686018427387904 by omega)]
    by_cases e1 : (k.2.2.2.2.1.length : Int) ≤ (i : Int)
    · simp only [e1, decide_true, cond_true]; exact hsame
    · have e2 : (i : Int) < (k.2.2.2.2.1.length : Int) := by omega
      simp only [e1, e2, decide_true, decide_false, cond_false, chks_t, chks_nil]
      by_cases e3 : bit2 .and .i64 (k.2.2.2.2.1.getD i (DTy.dflt (.int .i64))) (1 : Int) = (0 : Int)
      · simp only [e3, decide_true, cond_true]; exact hsame
      · by_cases e4 : (1 : Int) < (fs.length : Int)
        · simp only [e3, e4, decide_true, decide_false, cond_true, cond_false]; exact hsame
        · obtain ⟨p, p1, p2⟩ := name_eq hK (IntKind.wrap .i64 (Int.tdiv (k.2.2.2.2.1.getD i (DTy.dflt (.int .i64))) (2 : Int)))
          simp only [e3, e4, decide_false, cond_false, p1, Option.bind_some]
          rw [growOk_t (by omega) (by simp; omega), growOk_t (by omega) (by simp; omega), chks_t, chks_nil, chks_t, chks_nil]
          by_cases e5 : b = []
          · simp only [e5, decide_true, Bool.not_true, cond_false]
            have := hadd p (Or.inl p2) (by omega)
            rw [e5] at this
            exact this
          · simp only [e5, decide_false, Bool.not_false, cond_true]
            cases decide (Int.tmod (k.2.2.2.2.1.getD i (DTy.dflt (.int .i64))) 3 = 0)
            · exact hadd p (Or.inl p2) (by omega)
            · exact hadd [] (Or.inr ⟨e5, rfl⟩) (by omega)
theorem keepCheckin_eq (k : DKChk) : KeptK (ammonitekeep_Checkin_Checkin.f K ((k, ()) : DKChk × Unit)) := by
  obtain ⟨d, d1, d2, d3⟩ := within_eq K (n := k.2.1) (lo := 0) (hi := 9) (by omega) (by omega) (by omega)
  obtain ⟨u, u1, u2, u3⟩ := within_eq K (n := k.2.2.1) (lo := 0) (hi := 1) (by omega) (by omega) (by omega)
  obtain ⟨tx, t1, t2⟩ := text_eq hK k.2.2.2.1.1 k.2.2.2.1.2.1
  obtain ⟨bn, n1, n2⟩ := name_eq hK (IntKind.wrap .i64 (Int.tdiv k.1 4))
  have q1 := min_lo tx.length (show (0 : Int) ≤ 12 by decide)
  have q2 := min_hi 12 tx.length
  have hcut := cut_min tx (show (0 : Int) ≤ 12 by decide)
  have hcl : (tx.take (Int.toNat 12)).length ≤ 40 := by rw [List.length_take]; have : Int.toNat 12 = 12 := rfl; omega
  rw [ammonitekeep_Checkin_Checkin.eq, d1, Option.bind_some, u1, Option.bind_some, t1, Option.bind_some, n1, ammonitekeep_words.eq]
  simp only [Option.bind_some, q1, q2, decide_true, chks_t, chks_nil, hcut]
  have hu : ∀ L : List (List UInt8), L.length = 2 → (∀ p ∈ L, wordB p = true) → ∀ b : List UInt8, (b = [] ∨ isB b = true) → decide (u < (L.length : Int)) = true ∧
      KeptK (ammonitekeep_Checkin_Checkin.l7 K K wordsW (wordsW.length : Int) (0 : Int) k.1 k.2.1 k.2.2.1 k.2.2.2.1.1 k.2.2.2.1.2.1 k.2.2.2.2.1 k.2.2.2.2.2.1 k.2.2.2.2.2.2.1 k.2.2.2.2.2.2.2.1 [] [] 0 [] b (tx.take (Int.toNat 12)) d [] (L.getD u.toNat (DTy.dflt .str))) := by
    intro L hL hp b hb
    have b1 : u < (L.length : Int) := by omega
    have hq : wordB (L.getD u.toNat (DTy.dflt .str)) = true := getD_all (d := DTy.dflt .str) hp u2 b1
    exact ⟨decide_eq_true b1, kc_files hK hK2 k [] [] 0 [] b _ d _ hb hcl ⟨d2, d3⟩ hq _ rfl wordsW 0 K [] rfl (Nat.zero_le _) (by show 6 < K; omega) rfl (by simp) (fun x hx => by cases hx)⟩
  have h1 := hu [[109, 101], [121, 111, 117]] rfl (by decide) bn (Or.inr n2)
  have h2 := hu [[109, 101], [121, 111, 117]] rfl (by decide) [] (Or.inl rfl)
  rw [h1.1, decide_eq_true u2, chks_t, chks_t, chks_nil]
  cases decide (Int.tmod k.1 4 = 3)
  · exact h2.2
  · exact h1.2
theorem chkRuns_eq : ammonitelaw12_CheckinRuns.f K (()) = some true := by
  have hr : rightK (([], [104, 105], 5, [], [], [], [109, 101], ()) : DChk) = true := by decide
  have hz : rightK zChk = false := by decide
  have ho := rightK_ok hr
  have hd : decS 5 = [53] := by unfold decS; rw [if_pos ⟨by decide, by decide⟩]; show decN 5 = _; rw [decN_lt (by omega)]; rfl
  have hzf : FitsK K zChk := ⟨by show 0 < K; omega, by show 0 < K; omega, (fun t ht => by cases ht), by show 0 < K; omega, (fun t ht => by cases ht), by show 0 < K; omega, (fun t ht => by cases ht), by show 0 < K; omega⟩
  have hp := chkPrint_eq hK hK2 (c := (([], [104, 105], 5, [], [], [], [109, 101], ()) : DChk)) (OkChk.fits hK hK2 ho)
  have hpz := chkPrint_eq hK hK2 hzf
  rw [if_pos hr] at hp
  rw [hz] at hpz
  rw [ammonitelaw12_CheckinRuns.eq, hp, Option.bind_some, chkBack hK hK2 hr, Option.bind_some, hpz]
  have hbody : chkS (([], [104, 105], 5, [], [], [], [109, 101], ()) : DChk) = [67, 32, 46, 104, 105, 10, 68, 32, 53, 10, 85, 32, 109, 101] ++ ([10] ++ [90, 32] ++ sumS (bodyS (chkCards (([], [104, 105], 5, [], [], [], [109, 101], ()) : DChk))) ++ [10]) := by
    have e : bodyS (chkCards (([], [104, 105], 5, [], [], [], [109, 101], ()) : DChk)) = [67, 32, 46, 104, 105, 10, 68, 32, 53, 10, 85, 32, 109, 101] ++ [10] := by
      simp [chkCards, headCards, baseCards, parCards, escS, esc1, hd, bodyS, cardLine, Lib.join_cons, Lib.joinTail]
    unfold chkS sealS
    rw [e]
    simp only [List.append_assoc]
  have hlen : (chkS (([], [104, 105], 5, [], [], [], [109, 101], ()) : DChk)).length = 58 := by
    rw [hbody]
    simp only [List.length_append, List.length_cons, List.length_nil, sumS_len]
  have hcut : cutL (chkS (([], [104, 105], 5, [], [], [], [109, 101], ()) : DChk)) none (some (14 : Int)) = [67, 32, 46, 104, 105, 10, 68, 32, 53, 10, 85, 32, 109, 101] := by
    rw [hbody]
    exact (cutL_to _ 14).trans (List.take_left' rfl)
  simp only [hlen, hcut]
  simp [chks]
theorem ctells_end {c : DChk} (hc : FitsK K c) (o : DKChk) : ammonitelaw12_CheckinTells.j8 K (rightK c) (if rightK c = true then chkS c else []) o.1 o.2.1 o.2.2.1 o.2.2.2.1.1 o.2.2.2.1.2.1 o.2.2.2.2.1 o.2.2.2.2.2.1 o.2.2.2.2.2.2.1 o.2.2.2.2.2.2.2.1 c.1 c.2.1 c.2.2.1 c.2.2.2.1 c.2.2.2.2.1 c.2.2.2.2.2.1 c.2.2.2.2.2.2.1 = some true := by
  have hr := chkRuns_eq hK hK2
  obtain ⟨d, d1, d2⟩ := keepCheckin_eq hK hK2 o
  have hod := rightK_ok d2
  have hss : ∀ b : Bool, (!(b == b)) = false := by intro b; cases b <;> rfl
  rw [ammonitelaw12_CheckinTells.j8_eq (by omega), show (o.1, o.2.1, o.2.2.1, (o.2.2.2.1.1, o.2.2.2.1.2.1, ()), o.2.2.2.2.1, o.2.2.2.2.2.1, o.2.2.2.2.2.2.1, o.2.2.2.2.2.2.2.1, ()) = o from rfl, d1, Option.bind_some,
    show (c.1, c.2.1, c.2.2.1, c.2.2.2.1, c.2.2.2.2.1, c.2.2.2.2.2.1, c.2.2.2.2.2.2.1, ()) = c from rfl, show (d.1, d.2.1, d.2.2.1, d.2.2.2.1, d.2.2.2.2.1, d.2.2.2.2.2.1, d.2.2.2.2.2.2.1, ()) = d from rfl, chkSame_eq hK hK2 hc, checkins_eq hK hK2 hc, chkPrint_eq hK hK2 (OkChk.fits hK hK2 hod), hr]
  simp only [Option.bind_some, hss, cond_false]
  cases h : rightK c with
  | false => rfl
  | true =>
    have ho := rightK_ok h
    rw [if_pos rfl, chkBack hK hK2 h, rchk_ok hK hK2 ho]
    simp only [Option.bind_some]
    rw [show (c.1, c.2.1, c.2.2.1, c.2.2.2.1, c.2.2.2.2.1, c.2.2.2.2.2.1, c.2.2.2.2.2.2.1, ()) = c from rfl, checkins_eq hK hK2 hc, sameK_refl, if_pos d2]
    have e : decide (chkS c = chkS d) = sameK c d := by
      by_cases e : c = d
      · rw [e, sameK_refl]; simp
      · have h1 : ¬ chkS c = chkS d := fun x => e (chkS_inj hK hK2 h d2 x)
        have h2 : sameK c d = false := by
          cases h : sameK c d with
          | false => rfl
          | true => exact absurd (sameK_iff.1 h) e
        rw [h2]; simp [h1]
    simp only [Option.bind_some, decide_true, cond_true, Bool.not_true, cond_false, e]
    cases sameK c d <;> rfl
theorem ctells_mid {c : DChk} (hc : FitsK K c) (own : Bool) (hown : own = true → rightK c = true) (o : DKChk) : ammonitelaw12_CheckinTells.j4 K own o.1 o.2.1 o.2.2.1 o.2.2.2.1.1 o.2.2.2.1.2.1 o.2.2.2.2.1 o.2.2.2.2.2.1 o.2.2.2.2.2.2.1 o.2.2.2.2.2.2.2.1 c.1 c.2.1 c.2.2.1 c.2.2.2.1 c.2.2.2.2.1 c.2.2.2.2.2.1 c.2.2.2.2.2.2.1 = some true := by
  have hend := ctells_end hK hK2 hc o
  rw [ammonitelaw12_CheckinTells.j4_eq (by omega), show (c.1, c.2.1, c.2.2.1, c.2.2.2.1, c.2.2.2.2.1, c.2.2.2.2.2.1, c.2.2.2.2.2.2.1, ()) = c from rfl, rrightK_eq hK hK2 hc, Option.bind_some, chkPrint_eq hK hK2 hc, Option.bind_some, rightK_eq hK hK2 hc, Option.bind_some, chkSame_eq hK hK2 hc, sameK_refl]
  simp only [Option.bind_some, hend]
  have hcc : (!(rightK c == rightK c)) = false := by cases rightK c <;> rfl
  have hne : ((!decide ((if rightK c = true then chkS c else []) = ([] : List UInt8))) == rightK c) = true := by
    cases h : rightK c with
    | false => rfl
    | true =>
      have := (chkS_len (rightK_ok h)).2
      simp [this]
  rw [hcc, hne]
  cases own with
  | false => rfl
  | true => rw [hown rfl]; rfl
theorem tame_eq (c : DChk) : ammonitelaw12_tame.f K ((c, ()) : DChk × Unit) = some (c.1, c.2.1.take 45, c.2.2.1, c.2.2.2.1.take 5, c.2.2.2.2.1.take 5, c.2.2.2.2.2.1.take 5, c.2.2.2.2.2.2.1, ()) := by
  have _h := hK
  have _h2 := hK2
  rw [ammonitelaw12_tame.eq]
  have m1 := min_lo c.2.1.length (show (0 : Int) ≤ 45 by decide)
  have m2 := min_hi 45 c.2.1.length
  have m3 := cut_min c.2.1 (show (0 : Int) ≤ 45 by decide)
  have m4 := min_lo c.2.2.2.1.length (show (0 : Int) ≤ 5 by decide)
  have m5 := min_hi 5 c.2.2.2.1.length
  have m6 := cut_min c.2.2.2.1 (show (0 : Int) ≤ 5 by decide)
  have m7 := min_lo c.2.2.2.2.1.length (show (0 : Int) ≤ 5 by decide)
  have m8 := min_hi 5 c.2.2.2.2.1.length
  have m9 := cut_min c.2.2.2.2.1 (show (0 : Int) ≤ 5 by decide)
  have m10 := min_lo c.2.2.2.2.2.1.length (show (0 : Int) ≤ 5 by decide)
  have m11 := min_hi 5 c.2.2.2.2.2.1.length
  have m12 := cut_min c.2.2.2.2.2.1 (show (0 : Int) ≤ 5 by decide)
  simp only [m1, m2, m3, m4, m5, m6, m7, m8, m9, m10, m11, m12, decide_true, chks_t, chks_nil]
  rfl
theorem ctells_eq (raw : DChk) (hraw : raw.1.length < K ∧ (∀ f ∈ raw.2.2.2.1, f.1.length < K ∧ f.2.1.length < K) ∧ (∀ s ∈ raw.2.2.2.2.1, s.length < K) ∧ (∀ t ∈ raw.2.2.2.2.2.1, t.2.1.length < K ∧ t.2.2.1.length < K) ∧ raw.2.2.2.2.2.2.1.length < K) (k o : DKChk) (own : Bool) :
    ammonitelaw12_CheckinTells.f K ((raw, k, o, own, ()) : DChk × DKChk × DKChk × Bool × Unit) = some true := by
  obtain ⟨h1, h2, h3, h4, h5⟩ := hraw
  rw [ammonitelaw12_CheckinTells.eq, show (raw.1, raw.2.1, raw.2.2.1, raw.2.2.2.1, raw.2.2.2.2.1, raw.2.2.2.2.2.1, raw.2.2.2.2.2.2.1, ()) = raw from rfl, tame_eq hK hK2, Option.bind_some]
  cases own with
  | true =>
    obtain ⟨c, c1, c2⟩ := keepCheckin_eq hK hK2 k
    rw [cond_true, show (k.1, k.2.1, k.2.2.1, (k.2.2.2.1.1, k.2.2.2.1.2.1, ()), k.2.2.2.2.1, k.2.2.2.2.2.1, k.2.2.2.2.2.2.1, k.2.2.2.2.2.2.2.1, ()) = k from rfl, c1, Option.bind_some]
    exact ctells_mid hK hK2 (OkChk.fits hK hK2 (rightK_ok c2)) true (fun _ => c2) o
  | false =>
    rw [cond_false]
    refine ctells_mid hK hK2 (c := (raw.1, raw.2.1.take 45, raw.2.2.1, raw.2.2.2.1.take 5, raw.2.2.2.2.1.take 5, raw.2.2.2.2.2.1.take 5, raw.2.2.2.2.2.2.1, ())) ⟨h1, ?_, fun f hf => h2 f (List.mem_of_mem_take hf), ?_, fun s hs => h3 s (List.mem_of_mem_take hs), ?_, fun t ht => h4 t (List.mem_of_mem_take ht), h5⟩ false (fun h => by cases h) o
    · show (raw.2.2.2.1.take 5).length < K; rw [List.length_take]; omega
    · show (raw.2.2.2.2.1.take 5).length < K; rw [List.length_take]; omega
    · show (raw.2.2.2.2.2.1.take 5).length < K; rw [List.length_take]; omega
end
theorem reach_lt {n : Nat} (h : n ≤ reachBytes) : n < 1000000000000000 := by have : reachBytes = 140737488351232 := rfl; omega
theorem checkinRuns_plain (x : (prodT []).den) (h : Fit (prodT []) x) : ammonitelaw12_CheckinRuns.f 1000000000000000 x = some true := chkRuns_eq (by omega) (by omega)
abbrev TChk : DTy := .prod .str (.prod .str (.prod (.int .i64) (.prod (.slice TFile) (.prod (.slice .str) (.prod (.slice TTag) (.prod .str .unit))))))
abbrev TText : DTy := .prod (.int .i64) (.prod (.slice (.int .i64)) .unit)
abbrev TKChk : DTy := .prod (.int .i64) (.prod (.int .i64) (.prod (.int .i64) (.prod TText (.prod (.slice (.int .i64)) (.prod (.slice (.int .i64)) (.prod (.slice (.int .i64)) (.prod (.slice (.int .i64)) .unit)))))))
theorem checkinTells_plain (x : (prodT [TChk, TKChk, TKChk, .bool]).den) (h : Fit (prodT [TChk, TKChk, TKChk, .bool]) x) : ammonitelaw12_CheckinTells.f 1000000000000000 x = some true := by
  have hc := h.1
  refine ctells_eq (by omega) (by omega) x.1 ⟨reach_lt hc.1, fun f hf => ?_, fun s hs => reach_lt (fit_mem hc.2.2.2.2.1 s hs), fun t ht => ?_, reach_lt hc.2.2.2.2.2.2.1⟩ x.2.1 x.2.2.1 x.2.2.2.1
  · have := fit_mem hc.2.2.2.1 f hf
    exact ⟨reach_lt this.1, reach_lt this.2.1⟩
  · have := fit_mem hc.2.2.2.2.2.1 t ht
    exact ⟨reach_lt this.2.1, reach_lt this.2.2.1⟩
end Go.Proofs.Ytaoadbkoambjbaa.Ab
