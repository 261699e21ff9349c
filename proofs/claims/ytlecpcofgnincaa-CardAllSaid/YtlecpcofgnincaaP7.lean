/- CardBack, CardAll. -/
import Derived.Test.YtlecpcofgnincaaP6
set_option linter.unusedVariables false
set_option linter.unusedSimpArgs false
namespace Go.Proofs.Ytlecpcofgnincaa.Ab
open Go Go.RowKit Go.Proofs.Ytlecpcofgnincaa.Given
/-- How many cards are of a letter. -/
def cntA (c : Int) (l : List DCard) : Nat := (l.filter fun x => decide (x.1 = c)).length
theorem ofA_cnt (c : Int) : ∀ (l : List DCard) (k : Int), (ofA c k l).length = cntA c l := by
  intro l
  induction l with
  | nil => intro k; rfl
  | cons x l ih =>
    intro k
    unfold ofA cntA
    rw [List.filter_cons]
    by_cases h : x.1 = c
    · simp [h, ih]; rfl
    · simp [h, ih]; rfl
theorem cntA_cons (c : Int) (x : DCard) (l : List DCard) : cntA c (x :: l) = (if x.1 = c then 1 else 0) + cntA c l := by
  unfold cntA
  rw [List.filter_cons]
  by_cases h : x.1 = c
  · simp [h]; omega
  · simp [h]
theorem cntA_le (c : Int) (l : List DCard) : cntA c l ≤ l.length := List.length_filter_le _ _
theorem wM {k : Nat} (h : 0 < k) (h2 : k < 4611686018427387904) : IntKind.wrap .i64 ((k : Int) - 1) = ((k - 1 : Nat) : Int) := by rw [w64 (by omega) (by omega)]; omega
def cntLt (c : Int) (l : List DCard) : Nat := (l.filter fun x => decide (x.1 < c)).length
theorem cntLt_step (c : Int) : ∀ (l : List DCard), cntLt (c + 1) l = cntLt c l + cntA c l := by
  intro l
  induction l with
  | nil => rfl
  | cons x l ih =>
    rw [cntA_cons]
    unfold cntLt at ih ⊢
    rw [List.filter_cons, List.filter_cons]
    by_cases h1 : x.1 < c
    · have h2 : x.1 < c + 1 := by omega
      have h3 : ¬ (x.1 = c) := by omega
      simp only [h1, h2, h3, decide_true, if_true, if_false, List.length_cons, ih]
      omega
    · by_cases h3 : x.1 = c
      · have h2 : x.1 < c + 1 := by omega
        simp only [h2, decide_true, if_true, List.length_cons, ih]
        rw [if_pos h3]
        simp only [h1, decide_false, Bool.false_eq_true, if_false]
        omega
      · have h2 : ¬ (x.1 < c + 1) := by omega
        simp only [h1, h2, h3, decide_false, Bool.false_eq_true, if_false, ih]
        omega
theorem cntLt_le (c : Int) (l : List DCard) : cntLt c l ≤ l.length := by exact List.length_filter_le _ _
section
variable {K : Nat} (hK : 1000000 ≤ K)
/-! ### CardBack: which may be -/
theorem back_chars (ρ5 ρ9 : St → Option Bool) (t9 : List DCard) (a : List UInt8) (ha : a.length < 1000000) (t32 : List DCard) (t33 t34 : Int) (t66 : List (List UInt8)) (t67 t68 : Int) (b5 : Int) (b6 : Bool) (b7 : List DCard) (c0 : Int) (c1 : List (List UInt8)) (t : Int) (ht : t = (a.length : Int)) :
    ∀ (r : List UInt8) (k n : Nat) (t8 : Bool), a.drop k = r → k ≤ a.length → r.length < n →
    ammonitelaw11_CardBack.l13 K ρ5 ρ9 n t8 t9 a t32 t33 t34 t66 t67 t68 t k b5 b6 b7 c0 c1 = ρ9 (ammonitelaw11_CardBack.m9 (t8 && (!decide ((32 : UInt8) ∈ r) && !decide ((10 : UInt8) ∈ r))) t9 t32 t33 t34 t66 t67 (IntKind.wrap .i64 (t68 + 1)) b5 b6 b7 c0 c1) := by
  subst ht
  intro r
  induction r with
  | nil =>
    intro k n t8 hd hk hn
    have := drop_nil hd hk
    subst this
    obtain ⟨n, rfl⟩ : ∃ m, n = m + 1 := ⟨n - 1, by omega⟩
    rw [ammonitelaw11_CardBack.l13_succ]
    simp
  | cons x r ih =>
    intro k n t8 hd hk hn
    obtain ⟨n, rfl⟩ : ∃ m, n = m + 1 := ⟨n - 1, by omega⟩
    simp only [List.length_cons] at hn
    obtain ⟨hg, hlt, hd'⟩ := getD_drop (d := (0 : UInt8)) hd
    have h1 : (k : Int) < (a.length : Int) := by omega
    rw [ammonitelaw11_CardBack.l13_succ]
    simp only [h1, Int.natCast_nonneg, decide_true, cond_true, chks_t, chks_nil, Int.toNat_natCast, hg, wS (show k < 4611686018427387904 by omega)]
    have ihn := fun t8 => ih (k + 1) n t8 hd' (by omega) (by omega)
    simp only [ihn]
    cases t8 with
    | false => simp
    | true =>
      by_cases e1 : x = 32
      · subst e1
        have : (((32 : UInt8).toNat : Int) = 32) := rfl
        simp [this]
      · have t1 : ¬ ((x.toNat : Int) = 32) := fun e => e1 ((byte_eq x 32 (by decide)).1 e)
        have e1' : ¬ (32 : UInt8) = x := fun e => e1 e.symm
        by_cases e2 : x = 10
        · subst e2
          have : (((10 : UInt8).toNat : Int) = 10) := rfl
          simp [this]
        · have t2 : ¬ ((x.toNat : Int) = 10) := fun e => e2 ((byte_eq x 10 (by decide)).1 e)
          have e2' : ¬ (10 : UInt8) = x := fun e => e2 e.symm
          simp [t1, t2, e1', e2']
include hK
theorem back_args (ρ5 : St → Option Bool) (t9 : List DCard) (ht9 : t9.length < 1000000) (t32 : List DCard) (t33 t34 : Int) (args : List (List UInt8)) (hal : args.length < 900000) (haa : ∀ a ∈ args, a.length < 900000) (b5 : Int) (b6 : Bool) (b7 : List DCard) (c0 : Int) (c1 : List (List UInt8)) (t : Int) (ht : t = (args.length : Int)) :
    ∀ (r : List (List UInt8)) (k n : Nat) (t8 : Bool), args.drop k = r → k ≤ args.length → r.length < n →
    ammonitelaw11_CardBack.l9 K ρ5 n t8 t9 t32 t33 t34 args t k b5 b6 b7 c0 c1 = ρ5 (ammonitelaw11_CardBack.m5 (t8 && r.all okArg) (t9 ++ [(c0, c1, ())]) t32 t33 (IntKind.wrap .i64 (t34 + 1)) b5 b6 b7) := by
  subst ht
  intro r
  induction r with
  | nil =>
    intro k n t8 hd hk hn
    have := drop_nil hd hk
    subst this
    obtain ⟨n, rfl⟩ : ∃ m, n = m + 1 := ⟨n - 1, by omega⟩
    rw [ammonitelaw11_CardBack.l9_succ, growOk_t (by omega) (by simp; omega)]
    simp [chks]
  | cons a r ih =>
    intro k n t8 hd hk hn
    obtain ⟨n, rfl⟩ : ∃ m, n = m + 1 := ⟨n - 1, by omega⟩
    simp only [List.length_cons] at hn
    obtain ⟨hg, hlt, hd'⟩ := getD_drop (d := DTy.dflt .str) hd
    have h1 : (k : Int) < (args.length : Int) := by omega
    have hmem : a ∈ args := List.mem_of_mem_drop (i := k) (by rw [hd]; exact List.mem_cons_self)
    have hch := fun t8 => back_chars (K := K) ρ5 (ammonitelaw11_CardBack.r9 K ρ5 n) t9 a (by have := haa a hmem; omega) t32 t33 t34 args args.length k b5 b6 b7 c0 c1 a.length rfl a 0 K t8 rfl (Nat.zero_le _) (by have := haa a hmem; omega)
    have hz : ((0 : Nat) : Int) = 0 := rfl
    simp only [hz] at hch
    rw [ammonitelaw11_CardBack.l9_succ]
    simp only [h1, Int.natCast_nonneg, decide_true, cond_true, chks_t, chks_nil, Int.toNat_natCast, hg, hch, wS (show k < 4611686018427387904 by omega)]
    have ihn : ∀ t8, ammonitelaw11_CardBack.r9 K ρ5 n (ammonitelaw11_CardBack.m9 t8 t9 t32 t33 t34 args args.length ((k + 1 : Nat) : Int) b5 b6 b7 c0 c1) = _ := fun t8 => ih (k + 1) n t8 hd' (by omega) (by omega)
    simp only [ihn]
    rw [List.all_cons]
    cases t8 with
    | false => simp
    | true => simp [okArg, Bool.and_assoc]
/-! ### CardBack: those of a letter -/
theorem back_cnt (x : List DCard) (hx : x.length < 900000) (s : List UInt8) (hs : (bodyS x).length < 900000) (hr : rightB x = true) (hps : printS x = s) (letter : Int) (raw : Bool) : ∀ (l : List (Int × (List (List UInt8)) × Unit)) (m : Nat), l.length = m → m < 1000000 →
    ammonitelaw11_CardBack.i41 K l x s x true raw x 0 m = some true := by
  intro l
  induction l with
  | nil =>
    intro m hm _
    have hm0 : m = 0 := by simpa using hm.symm
    subst hm0
    have hargs : ∀ c ∈ x, c.2.1.length < 900000 := fun c hc => by have := args_num c; have := body_mem x c hc; omega
    have hp : s = sealS (bodyS x) := by rw [← hps]; unfold printS; rw [hr]; rfl
    rw [ammonitelaw11_CardBack.i41_nil, rprint_eq hK hs, Option.bind_some, same_eq hK hx hargs, cruns_eq hK, ← hp]
    simp
  | cons y l ih =>
    intro m hm hlt
    simp only [List.length_cons] at hm
    rw [ammonitelaw11_CardBack.i41_cons, wM (by omega) (by omega)]
    exact ih (m - 1) (by omega) (by omega)
theorem back_down (x : List DCard) (hx : x.length < 900000) (s : List UInt8) (hs : (bodyS x).length < 900000) (hr : rightB x = true) (hps : printS x = s) (letter : Int) (raw : Bool) (t : Int) (ht : t = (x.length : Int)) : ∀ (r : List DCard) (k n : Nat), x.drop k = r → k ≤ x.length → r.length < n →
    ammonitelaw11_CardBack.l34 K n x s x true x t k letter raw x (cntA letter r) = some true := by
  subst ht
  intro r
  induction r with
  | nil =>
    intro k n hd hk hn
    have := drop_nil hd hk
    subst this
    obtain ⟨n, rfl⟩ : ∃ m, n = m + 1 := ⟨n - 1, by omega⟩
    have hc : ((cntA letter [] : Nat) : Int) = 0 := rfl
    have hol := ofA_len letter x 0
    rw [ammonitelaw11_CardBack.l34_succ, one_eq hx, of_eq (by omega), hc]
    simp only [Int.lt_irrefl, decide_false, cond_false, Option.bind_some]
    exact back_cnt hK x hx s hs hr hps letter raw (ofA letter 0 x) _ rfl (by omega)
  | cons c r ih =>
    intro k n hd hk hn
    obtain ⟨n, rfl⟩ : ∃ m, n = m + 1 := ⟨n - 1, by omega⟩
    simp only [List.length_cons] at hn
    obtain ⟨hg, hlt, hd'⟩ := getD_drop (d := DTy.dflt (.prod (.int .u8) (.prod (.slice .str) .unit))) hd
    have h1 : (k : Int) < (x.length : Int) := by omega
    have hcl := cntA_le letter r
    have hrl : r.length < x.length := by have := congrArg List.length hd; simp at this; omega
    have ihn := ih (k + 1) n hd' (by omega) (by omega)
    rw [ammonitelaw11_CardBack.l34_succ, cntA_cons]
    simp only [h1, Int.natCast_nonneg, decide_true, cond_true, chks_t, chks_nil, Int.toNat_natCast, hg, wS (show k < 4611686018427387904 by omega)]
    by_cases hc : c.1 = letter
    · simp only [hc, decide_true, cond_true, if_true]
      rw [wM (by omega) (by omega)]
      have : 1 + cntA letter r - 1 = cntA letter r := by omega
      rw [this]
      exact ihn
    · simp only [hc, decide_false, cond_false, if_false, Nat.zero_add]
      exact ihn
theorem back_of (x : List DCard) (hx : x.length < 900000) (s : List UInt8) (hs : (bodyS x).length < 900000) (hr : rightB x = true) (hps : printS x = s) (letter : Int) (raw : Bool) : ∀ (r : List DCard) (k : Nat) (cnt : Nat) (at_ : Int), x.drop k = r → k ≤ x.length → at_ < (k : Int) → cnt + cntA letter r = cntA letter x →
    ammonitelaw11_CardBack.i28 K (ofA letter k r) x s x true letter raw x cnt at_ = some true := by
  intro r
  induction r with
  | nil =>
    intro k cnt at_ hd hk ha hc
    have : cnt = cntA letter x := by simpa [cntA] using hc
    subst this
    show ammonitelaw11_CardBack.i28 K [] x s x true letter raw x _ at_ = some true
    rw [ammonitelaw11_CardBack.i28_nil]
    exact back_down hK x hx s hs hr hps letter raw _ rfl x 0 K rfl (Nat.zero_le _) (by omega)
  | cons c r ih =>
    intro k cnt at_ hd hk ha hc
    obtain ⟨hg, hlt, hd'⟩ := getD_drop (d := DTy.dflt (.prod (.int .u8) (.prod (.slice .str) .unit))) hd
    have hmem : c ∈ x := List.mem_of_mem_drop (i := k) (by rw [hd]; exact List.mem_cons_self)
    have hcx := cntA_le letter x
    rw [cntA_cons] at hc
    have hk1 : ((k + 1 : Nat) : Int) = (k : Int) + 1 := by omega
    unfold ofA
    by_cases hl : c.1 = letter
    · rw [if_pos hl] at hc ⊢
      rw [ammonitelaw11_CardBack.i28_cons]
      have h1 : ¬ ((k : Int) ≤ at_) := by omega
      have h2 : ¬ ((x.length : Int) ≤ (k : Int)) := by omega
      have h3 : (k : Int) < (x.length : Int) := by omega
      have hsz : c.2.1.length < 900000 := by have := args_num c; have := body_mem x c hmem; omega
      simp only [h1, h2, h3, decide_false, cond_false, Int.natCast_nonneg, decide_true, chks_t, chks_nil, Int.toNat_natCast, hg, hl, Bool.not_true]
      rw [sames_eq hK hsz, wS (by omega)]
      simp only [decide_true, Option.bind_some, Bool.not_true, cond_false]
      have := ih (k + 1) (cnt + 1) k hd' (by omega) (by omega) (by omega)
      rw [hk1] at this
      exact this
    · rw [if_neg hl] at hc ⊢
      have := ih (k + 1) cnt at_ hd' (by omega) (by omega) (by omega)
      rw [hk1] at this
      exact this
theorem back_loop (x : List DCard) (hb : (bodyS x).length < 300000 - 100) (letter : Int) (raw : Bool) (t : Int) (ht : t = (x.length : Int)) : ∀ (r : List DCard) (k n : Nat) (t8 : Bool), x.drop k = r → k ≤ x.length → r.length < n → (t8 && okRow (if k = 0 then none else some (x.getD (k - 1) dCard).1) r) = rightB x →
    ammonitelaw11_CardBack.l5 K n t8 (x.take k) x t k letter raw x = some true := by
  subst ht
  have hbl := body_len x
  intro r
  induction r with
  | nil =>
    intro k n t8 hd hk hn hr
    have := drop_nil hd hk
    subst this
    obtain ⟨n, rfl⟩ : ∃ m, n = m + 1 := ⟨n - 1, by omega⟩
    have hr : t8 = rightB x := by simpa [okRow] using hr
    subst hr
    rw [ammonitelaw11_CardBack.l5_succ, print_eq hK (by omega), right_eq hK (by omega), List.take_length]
    simp only [Int.lt_irrefl, decide_false, cond_false, Option.bind_some]
    cases hrx : rightB x with
    | false =>
      have : printS x = [] := by unfold printS; rw [hrx]; rfl
      simp [this, cruns_eq hK]
    | true =>
      have hp : printS x = sealS (bodyS x) := by unfold printS; rw [hrx]; rfl
      have hl : (printS x).length = (bodyS x).length + 43 := by rw [hp]; unfold sealS; simp [sumS_len]
      have hne : ¬ (printS x = []) := by intro e; rw [e] at hl; simp at hl
      obtain ⟨l, ok, r1, _, _, r4⟩ := read_eq hK (s := printS x) (by omega)
      obtain ⟨hok, hlx⟩ := r4 x hrx rfl
      subst hok
      rw [hlx] at r1
      have hof := back_of hK x (by omega) (printS x) (by omega) hrx rfl letter raw x 0 0 (-1) rfl (Nat.zero_le _) (by omega) (by omega)
      have hz : ((0 : Nat) : Int) = 0 := rfl
      simp only [hz] at hof
      simp only [hne, r1, of_eq (show x.length < 1000000 by omega), decide_false, Bool.not_false, beq_self_eq_true, Bool.not_true, cond_false, Option.bind_some]
      exact hof
  | cons c r ih =>
    intro k n t8 hd hk hn hr
    obtain ⟨n, rfl⟩ : ∃ m, n = m + 1 := ⟨n - 1, by omega⟩
    simp only [List.length_cons] at hn
    obtain ⟨hg, hlt, hd'⟩ := getD_drop (d := DTy.dflt (.prod (.int .u8) (.prod (.slice .str) .unit))) hd
    have hg0 : x.getD k dCard = c := hg
    have hmem : c ∈ x := List.mem_of_mem_drop (i := k) (by rw [hd]; exact List.mem_cons_self)
    have h1 : (k : Int) < (x.length : Int) := by omega
    have hbm := body_mem x c hmem
    have hal : c.2.1.length < 900000 := by have := args_num c; omega
    have haa : ∀ a ∈ c.2.1, a.length < 900000 := fun a ha => by have := args_len c a ha; omega
    have htk : x.take k ++ [(c.1, c.2.1, ())] = x.take (k + 1) := by
      rw [List.take_succ_eq_append_getElem hlt]
      have : x[k] = c := by rw [← hg0]; simp [hlt]
      rw [this]
    have hj : ∀ u, ammonitelaw11_CardBack.j8 K (ammonitelaw11_CardBack.r5 K n) u (x.take k) x x.length k letter raw x c.1 c.2.1 = ammonitelaw11_CardBack.l5 K n (u && c.2.1.all okArg) (x.take (k + 1)) x x.length ((k + 1 : Nat) : Int) letter raw x := by
      intro u
      have := back_args hK (ammonitelaw11_CardBack.r5 K n) (x.take k) (by simp; omega) x x.length k c.2.1 hal haa letter raw x c.1 c.2.1 _ rfl c.2.1 0 K u rfl (Nat.zero_le _) (by omega)
      have hz : ((0 : Nat) : Int) = 0 := rfl
      rw [hz, htk, wS (by omega)] at this
      rw [ammonitelaw11_CardBack.j8_eq (by omega), this]
      rfl
    have ihn := fun u => ih (k + 1) n u hd' (by omega) (by omega)
    rw [if_neg (by omega), Nat.add_sub_cancel, hg0] at ihn
    rw [okRow] at hr
    rw [ammonitelaw11_CardBack.l5_succ]
    simp only [h1, Int.natCast_nonneg, decide_true, cond_true, chks_t, chks_nil, Int.toNat_natCast, hg, hj]
    have no : (false && okRow (some c.1) r) = rightB x → ammonitelaw11_CardBack.l5 K n false (x.take (k + 1)) x x.length ((k + 1 : Nat) : Int) letter raw x = some true := fun h => ihn false h
    cases t8 with
    | false =>
      simp only [cond_false, Bool.false_and]
      exact no (by simpa using hr)
    | true =>
      simp only [cond_true, Bool.true_and] at hr ⊢
      by_cases a1 : 65 ≤ c.1
      · by_cases a2 : c.1 ≤ 89
        · simp only [a1, a2, decide_true, cond_true, Bool.true_and] at hr ⊢
          cases k with
          | zero =>
            have h0 : ((0 : Nat) : Int) = 0 := rfl
            simp only [h0, decide_true, cond_true]
            refine ihn _ ?_
            rw [← hr]
            simp [okPrev]
          | succ j =>
            have b1 : ¬ (((j + 1 : Nat) : Int) = 0) := by omega
            have b2 : (j : Int) < (x.length : Int) := by omega
            have hgj : x.getD j (DTy.dflt (.prod (.int .u8) (.prod (.slice .str) .unit))) = x.getD j dCard := rfl
            simp only [b1, b2, decide_true, decide_false, cond_false, wP (show j < 4611686018427387904 by omega), Int.natCast_nonneg, chks_t, chks_nil, Int.toNat_natCast, hgj]
            refine ihn _ ?_
            rw [← hr, if_neg (by omega), Nat.add_sub_cancel]
            simp [okPrev, Bool.and_assoc]
        · simp only [a1, a2, decide_true, decide_false, cond_true, cond_false, Bool.false_and, Bool.and_false] at hr ⊢
          exact no hr
      · simp only [a1, decide_false, cond_false, Bool.false_and] at hr ⊢
        exact no hr
theorem back_eq {l0 : List DCard} (raw : Bool) (letter : Int) (hl : ∀ g ∈ l0, 0 ≤ g.1 ∧ g.1 < 256) : ammonitelaw11_CardBack.f K (l0, raw, letter, ()) = some true := by
  obtain ⟨x, x1, x2⟩ := gen_eq hK (l0 := l0) raw hl
  have hbx := x2.body
  have hxl := x2.len
  rw [ammonitelaw11_CardBack.eq, x1, Option.bind_some]
  have := back_loop hK x (by omega) letter false _ rfl x 0 K (decide ((0 : Int) < (x.length : Int))) rfl (Nat.zero_le _) (by omega) (by
    unfold rightB
    have : decide ((0 : Int) < (x.length : Int)) = decide (0 < x.length) := by simp
    rw [this, Bool.and_comm]
    rfl)
  exact this
/-! ### CardAll -/
theorem all_count (x : List DCard) (hx : x.length < 900000) (hne : x ≠ []) (b4 : Bool) (kk m : Int) (hm : m = (if (cntA (x.getD 0 dCard).1 x : Int) < kk then (cntA (x.getD 0 dCard).1 x : Int) else kk)) (t : Int) (ht : t = (x.length : Int)) : ∀ (r : List DCard) (k n : Nat) (a : Nat), x.drop k = r → k ≤ x.length → r.length < n → a + cntA (x.getD 0 dCard).1 r = cntA (x.getD 0 dCard).1 x →
    ammonitelaw11_CardAll.l24 K n a x t k b4 x kk m = some true := by
  subst ht
  have hcx := cntA_le (x.getD 0 dCard).1 x
  have hpos : (0 : Int) < (x.length : Int) := by
    cases x with
    | nil => exact absurd rfl hne
    | cons _ _ => simp
  intro r
  induction r with
  | nil =>
    intro k n a hd hk hn ha
    have := drop_nil hd hk
    subst this
    obtain ⟨n, rfl⟩ : ∃ m, n = m + 1 := ⟨n - 1, by omega⟩
    have ha : a = cntA (x.getD 0 dCard).1 x := by simpa [cntA] using ha
    rw [ammonitelaw11_CardAll.l24_succ, ha, ← hm, cruns_eq hK]
    simp
  | cons c r ih =>
    intro k n a hd hk hn ha
    obtain ⟨n, rfl⟩ : ∃ m, n = m + 1 := ⟨n - 1, by omega⟩
    simp only [List.length_cons] at hn
    obtain ⟨hg, hlt, hd'⟩ := getD_drop (d := DTy.dflt (.prod (.int .u8) (.prod (.slice .str) .unit))) hd
    have h1 : (k : Int) < (x.length : Int) := by omega
    have hg0 : x.getD 0 (DTy.dflt (.prod (.int .u8) (.prod (.slice .str) .unit))) = x.getD 0 dCard := rfl
    rw [cntA_cons] at ha
    rw [ammonitelaw11_CardAll.l24_succ]
    simp only [h1, hpos, Int.natCast_nonneg, decide_true, cond_true, chks_t, chks_nil, Int.toNat_natCast, Int.toNat_zero, hg, hg0, wS (show k < 4611686018427387904 by omega)]
    by_cases hc : c.1 = (x.getD 0 dCard).1
    · rw [if_pos hc] at ha
      simp only [hc, decide_true, cond_true]
      rw [wS (by omega)]
      exact ih (k + 1) n (a + 1) hd' (by omega) (by omega) (by omega)
    · rw [if_neg hc] at ha
      simp only [hc, decide_false, cond_false]
      exact ih (k + 1) n a hd' (by omega) (by omega) (by omega)
theorem all_cut (x : List DCard) (hx : x.length < 900000) (hne : x ≠ []) (b4 : Bool) (kk : Nat) : ∀ (l : List (Int × (List (List UInt8)) × Unit)) (m : Nat), m < kk → m + l.length = cntA (x.getD 0 dCard).1 x →
    ammonitelaw11_CardAll.i21 K l 0 b4 x kk m = some true := by
  have hcx := cntA_le (x.getD 0 dCard).1 x
  have fin : ∀ m : Int, m = (if (cntA (x.getD 0 dCard).1 x : Int) < (kk : Int) then (cntA (x.getD 0 dCard).1 x : Int) else (kk : Int)) → ammonitelaw11_CardAll.l24 K K 0 x x.length 0 b4 x kk m = some true := by
    intro m hm
    exact all_count hK x hx hne b4 kk m hm _ rfl x 0 K 0 rfl (Nat.zero_le _) (by omega) (by omega)
  intro l
  induction l with
  | nil =>
    intro m hm hl
    have hl : m = cntA (x.getD 0 dCard).1 x := by simpa using hl
    rw [ammonitelaw11_CardAll.i21_nil]
    exact fin m (by rw [if_pos (by omega)]; omega)
  | cons y l ih =>
    intro m hm hl
    simp only [List.length_cons] at hl
    rw [ammonitelaw11_CardAll.i21_cons, wS (by omega)]
    by_cases he : m + 1 = kk
    · have h1 : ((m + 1 : Nat) : Int) = (kk : Int) := by omega
      simp only [h1, decide_true, cond_true]
      exact fin _ (by rw [if_neg (by omega)])
    · have h1 : ¬ (((m + 1 : Nat) : Int) = (kk : Int)) := by omega
      simp only [h1, decide_false, cond_false]
      exact ih (m + 1) (by omega) (by omega)
theorem all_of (ρ6 : St → Option Bool) (x : List DCard) (hx : x.length < 900000) (hs : (bodyS x).length < 900000) (cut : Int) (b4 : Bool) (letter : Int) : ∀ (r : List DCard) (k : Nat) (cnt : Nat), x.drop k = r → k ≤ x.length → cnt + r.length < 1000000 →
    ammonitelaw11_CardAll.i9 K ρ6 (ofA letter k r) cut b4 x cnt letter = ρ6 (ammonitelaw11_CardAll.m6 cut b4 x ((cnt + cntA letter r : Nat) : Int) (IntKind.wrap .u8 (letter + 1))) := by
  intro r
  induction r with
  | nil =>
    intro k cnt hd hk ha
    show ammonitelaw11_CardAll.i9 K ρ6 [] cut b4 x cnt letter = _
    rw [ammonitelaw11_CardAll.i9_nil, ammonitelaw11_CardAll.j15_eq (by omega)]
    rfl
  | cons c r ih =>
    intro k cnt hd hk ha
    obtain ⟨hg, hlt, hd'⟩ := getD_drop (d := DTy.dflt (.prod (.int .u8) (.prod (.slice .str) .unit))) hd
    have hmem : c ∈ x := List.mem_of_mem_drop (i := k) (by rw [hd]; exact List.mem_cons_self)
    have hk1 : ((k + 1 : Nat) : Int) = (k : Int) + 1 := by omega
    have hrl : k + 1 + r.length = x.length := by have := congrArg List.length hd; simp at this; omega
    unfold ofA
    rw [cntA_cons]
    by_cases hl : c.1 = letter
    · rw [if_pos hl, if_pos hl, ammonitelaw11_CardAll.i9_cons]
      have h1 : ¬ ((k : Int) < 0) := by omega
      have h2 : ¬ ((x.length : Int) ≤ (k : Int)) := by omega
      have h3 : (k : Int) < (x.length : Int) := by omega
      have hsz : c.2.1.length < 900000 := by have := args_num c; have := body_mem x c hmem; omega
      simp only [h1, h2, h3, decide_false, cond_false, Int.natCast_nonneg, decide_true, chks_t, chks_nil, Int.toNat_natCast, hg, hl, Bool.not_true]
      rw [sames_eq hK hsz, wS (by omega)]
      simp only [decide_true, Option.bind_some, Bool.not_true, cond_false]
      have := ih (k + 1) (cnt + 1) hd' (by omega) (by simp only [List.length_cons] at ha; omega)
      rw [hk1] at this
      rw [this]
      have e : cnt + 1 + cntA letter r = cnt + (1 + cntA letter r) := by omega
      rw [e]
    · rw [if_neg hl, if_neg hl, Nat.zero_add]
      have := ih (k + 1) cnt hd' (by omega) (by simp only [List.length_cons] at ha; omega)
      rw [hk1] at this
      exact this
theorem all_loop (x : List DCard) (hx : x.length < 1000) (hs : (bodyS x).length < 900000) (hok : okRow none x = true) (cut : Int) (b4 : Bool) : ∀ (d n : Nat) (c : Int), c + d = 91 → 65 ≤ c → d < n → ammonitelaw11_CardAll.l6 K n cut b4 x (cntLt c x) c = some true := by
  intro d
  induction d with
  | zero =>
    intro n c hc h65 hn
    obtain ⟨n, rfl⟩ : ∃ m, n = m + 1 := ⟨n - 1, by omega⟩
    have h91 : ¬ (c ≤ 90) := by omega
    have hall : cntLt c x = x.length := by
      unfold cntLt
      rw [List.filter_eq_self.2]
      intro y hy
      have := (okRow_mem hok y hy).hi
      simp
      omega
    rw [ammonitelaw11_CardAll.l6_succ, hall]
    simp only [h91, decide_false, cond_false, decide_true, Bool.not_true, cond_true]
    by_cases h0 : x = []
    · subst h0
      simp [cruns_eq hK]
    · have h1 : ¬ ((x.length : Int) = 0) := by
        cases x with
        | nil => exact absurd rfl h0
        | cons _ _ => simp; omega
      have h2 : (0 : Int) < (x.length : Int) := by omega
      obtain ⟨v, v1, v2, v3⟩ := within_eq K (n := cut) (lo := 1) (hi := 4) (by omega) (by omega) (by omega)
      obtain ⟨j, rfl⟩ : ∃ j : Nat, v = j := ⟨v.toNat, by omega⟩
      have hg0 : x.getD 0 (DTy.dflt (.prod (.int .u8) (.prod (.slice .str) .unit))) = x.getD 0 dCard := rfl
      simp only [h1, h2, decide_false, cond_false, decide_true, v1, Option.bind_some, chks_t, chks_nil, Int.toNat_zero, hg0, of_eq (show x.length < 1000000 by omega)]
      exact all_cut hK x (by omega) h0 b4 j (ofA (x.getD 0 dCard).1 0 x) 0 (by omega) (by rw [ofA_cnt]; omega)
  | succ d ih =>
    intro n c hc h65 hn
    obtain ⟨n, rfl⟩ : ∃ m, n = m + 1 := ⟨n - 1, by omega⟩
    have h90 : c ≤ 90 := by omega
    have hcl := cntLt_le c x
    have hof := all_of hK (ammonitelaw11_CardAll.r6 K n) x (by omega) hs cut b4 c x 0 (cntLt c x) rfl (Nat.zero_le _) (by omega)
    have hz : ((0 : Nat) : Int) = 0 := rfl
    rw [hz, ← cntLt_step, show IntKind.wrap .u8 (c + 1) = c + 1 from IntWalk.u8_in _ (by omega)] at hof
    rw [ammonitelaw11_CardAll.l6_succ]
    simp only [h90, decide_true, cond_true, of_eq (show x.length < 1000000 by omega), Option.bind_some, hof]
    exact ih n (c + 1) (by omega) (by omega) (by omega)
theorem all_eq {l0 : List DCard} (cut : Int) (hl : ∀ g ∈ l0, 0 ≤ g.1 ∧ g.1 < 256) : ammonitelaw11_CardAll.f K (l0, cut, ()) = some true := by
  obtain ⟨x, x1, x2⟩ := gen_eq hK (l0 := l0) false hl
  have hbx := x2.body
  have hxl := x2.len
  have hra : rightB [(65, [], ())] = true := by decide +kernel
  rw [ammonitelaw11_CardAll.eq, x1, Option.bind_some, right_eq hK (by decide), hra]
  simp only [Option.bind_some, Bool.not_true, cond_false]
  have h0 : cntLt 65 x = 0 := by
    unfold cntLt
    rw [List.length_eq_zero_iff, List.filter_eq_nil_iff]
    intro y hy
    have := (okRow_mem (x2.row rfl) y hy).lo
    simp
    omega
  have := all_loop hK x (by omega) (by omega) (x2.row rfl) cut false 26 K 65 (by decide) (by decide) (by omega)
  rw [h0] at this
  exact this
end
theorem cardBack_plain (x : (prodT [.slice (.prod (.int .u8) (.prod (.slice .str) .unit)), .bool, .int .u8]).den) (h : Fit (prodT [.slice (.prod (.int .u8) (.prod (.slice .str) .unit)), .bool, .int .u8]) x) :
    ammonitelaw11_CardBack.f 1000000 x = some true := back_eq (Nat.le_refl _) x.2.1 x.2.2.1 (given_range h.1)
theorem cardAll_plain (x : (prodT [.slice (.prod (.int .u8) (.prod (.slice .str) .unit)), .int .i64]).den) (h : Fit (prodT [.slice (.prod (.int .u8) (.prod (.slice .str) .unit)), .int .i64]) x) :
    ammonitelaw11_CardAll.f 1000000 x = some true := all_eq (Nat.le_refl _) x.2.1 (given_range h.1)
end Go.Proofs.Ytlecpcofgnincaa.Ab
