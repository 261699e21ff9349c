/- What the reference reads; CheckinComments, CheckinEdges. -/
import Derived.Test.YtaoadbkoambjbaaR4
set_option linter.unusedVariables false
set_option linter.unusedSimpArgs false
set_option linter.unusedSectionVars false
set_option maxRecDepth 10000
namespace Go.Proofs.Ytaoadbkoambjbaa.Ab
open Go Go.RowKit Go.Proofs.Ytaoadbkoambjbaa.Given
noncomputable def rdecV (K : Nat) (s : List UInt8) : Int := (ammoniteref1_ReadDec.f K ((s, ()) : List UInt8 × Unit)).getD 0
noncomputable def stepK (K : Nat) (st : DChk) (x : DCard) : Option DChk :=
  match x.2.1 with
  | [a] =>
    if x.1 = 66 then some (a, st.2.1, st.2.2.1, st.2.2.2.1, st.2.2.2.2.1, st.2.2.2.2.2.1, st.2.2.2.2.2.2.1, ())
    else if x.1 = 67 then (if a.getD 0 0 = 46 then (unesc (a.drop 1)).map fun t => (st.1, t, st.2.2.1, st.2.2.2.1, st.2.2.2.2.1, st.2.2.2.2.2.1, st.2.2.2.2.2.2.1, ()) else none)
    else if x.1 = 68 then some (st.1, st.2.1, rdecV K a, st.2.2.2.1, st.2.2.2.2.1, st.2.2.2.2.2.1, st.2.2.2.2.2.2.1, ())
    else if x.1 = 70 then some (st.1, st.2.1, st.2.2.1, st.2.2.2.1 ++ [(a, [], ())], st.2.2.2.2.1, st.2.2.2.2.2.1, st.2.2.2.2.2.2.1, ())
    else if x.1 = 80 then some (st.1, st.2.1, st.2.2.1, st.2.2.2.1, [a], st.2.2.2.2.2.1, st.2.2.2.2.2.2.1, ())
    else if x.1 = 84 then some st
    else if x.1 = 85 then some (st.1, st.2.1, st.2.2.1, st.2.2.2.1, st.2.2.2.2.1, st.2.2.2.2.2.1, a, ())
    else none
  | [a, b] =>
    if x.1 = 70 then some (st.1, st.2.1, st.2.2.1, st.2.2.2.1 ++ [(a, b, ())], st.2.2.2.2.1, st.2.2.2.2.2.1, st.2.2.2.2.2.2.1, ())
    else if x.1 = 80 then some (st.1, st.2.1, st.2.2.1, st.2.2.2.1, [a, b], st.2.2.2.2.2.1, st.2.2.2.2.2.2.1, ())
    else if x.1 = 84 then some st
    else none
  | l =>
    if x.1 = 80 then some (st.1, st.2.1, st.2.2.1, st.2.2.2.1, l, st.2.2.2.2.2.1, st.2.2.2.2.2.2.1, ())
    else if x.1 = 84 then some st
    else none
noncomputable def foldK (K : Nat) : List DCard → DChk → Option DChk
  | [], st => some st
  | x :: r, st => (stepK K st x).bind (foldK K r)
structure BdK (n : Nat) (c : DChk) : Prop where
  base : c.1.length < 300000
  files : ∀ f ∈ c.2.2.2.1, f.1.length < 300000 ∧ f.2.1.length < 300000
  nfiles : c.2.2.2.1.length ≤ n
  npar : c.2.2.2.2.1.length < 300000
  par : ∀ s ∈ c.2.2.2.2.1, s.length < 300000
  ntags : c.2.2.2.2.2.1.length < 300000
  tags : ∀ t ∈ c.2.2.2.2.2.1, t.2.1.length < 300000 ∧ t.2.2.1.length < 300000
  user : c.2.2.2.2.2.2.1.length < 300000
theorem stepK_bd {K n : Nat} {st st' : DChk} {x : DCard} (h : BdK n st) (hx : ∀ a ∈ x.2.1, a.length < 300000) (hl : x.2.1.length < 300000) (he : stepK K st x = some st') : BdK (n + 1) st' := by
  obtain ⟨letter, args, ⟨⟩⟩ := x
  have hn := h.nfiles
  have addf : ∀ f : DFile, f.1.length < 300000 → f.2.1.length < 300000 → BdK (n + 1) (st.1, st.2.1, st.2.2.1, st.2.2.2.1 ++ [f], st.2.2.2.2.1, st.2.2.2.2.2.1, st.2.2.2.2.2.2.1, ()) := fun f h1 h2 =>
    ⟨h.base, fun g hg => by rcases List.mem_append.1 hg with hg | hg; exact h.files g hg; simp at hg; rw [hg]; exact ⟨h1, h2⟩, by show (st.2.2.2.1 ++ [f]).length ≤ n + 1; simp; exact hn, h.npar, h.par, h.ntags, h.tags, h.user⟩
  have addp : ∀ l : List (List UInt8), l = args → BdK (n + 1) (st.1, st.2.1, st.2.2.1, st.2.2.2.1, l, st.2.2.2.2.2.1, st.2.2.2.2.2.2.1, ()) := fun l e =>
    ⟨h.base, h.files, by show st.2.2.2.1.length ≤ n + 1; omega, by rw [e]; exact hl, by rw [e]; exact hx, h.ntags, h.tags, h.user⟩
  have same : BdK (n + 1) st := ⟨h.base, h.files, by omega, h.npar, h.par, h.ntags, h.tags, h.user⟩
  unfold stepK at he
  match args, hx, hl, he, addp with
  | [], hx, hl, he, addp =>
    simp only at he
    split at he
    · cases he; exact addp [] rfl
    · split at he
      · cases he; exact same
      · cases he
  | [a], hx, hl, he, addp =>
    have ha : a.length < 300000 := hx a (by simp)
    simp only at he
    split at he
    · cases he; exact ⟨ha, h.files, by show st.2.2.2.1.length ≤ n + 1; omega, h.npar, h.par, h.ntags, h.tags, h.user⟩
    · split at he
      · split at he
        · cases e : unesc (a.drop 1) with
          | none => rw [e] at he; cases he
          | some t => rw [e] at he; cases he; exact ⟨h.base, h.files, by show st.2.2.2.1.length ≤ n + 1; omega, h.npar, h.par, h.ntags, h.tags, h.user⟩
        · cases he
      · split at he
        · cases he; exact ⟨h.base, h.files, by show st.2.2.2.1.length ≤ n + 1; omega, h.npar, h.par, h.ntags, h.tags, h.user⟩
        · split at he
          · cases he; exact addf (a, [], ()) ha (by show 0 < 300000; omega)
          · split at he
            · cases he; exact addp [a] rfl
            · split at he
              · cases he; exact same
              · split at he
                · cases he; exact ⟨h.base, h.files, by show st.2.2.2.1.length ≤ n + 1; omega, h.npar, h.par, h.ntags, h.tags, ha⟩
                · cases he
  | [a, b], hx, hl, he, addp =>
    simp only at he
    split at he
    · cases he; exact addf (a, b, ()) (hx a (by simp)) (hx b (by simp))
    · split at he
      · cases he; exact addp [a, b] rfl
      · split at he
        · cases he; exact same
        · cases he
  | a :: b :: c :: r, hx, hl, he, addp =>
    simp only at he
    split at he
    · cases he; exact addp _ rfl
    · split at he
      · cases he; exact same
      · cases he
section
variable {K : Nat} (hK : 1000000 ≤ K) (hK2 : K < 4611686018427387904)
include hK hK2
theorem BdK.fits {n : Nat} {c : DChk} (h : BdK n c) (hn : n < 900000) : FitsK K c :=
  ⟨by have := h.base; omega, by have := h.nfiles; omega, fun f hf => by have := h.files f hf; omega, by have := h.npar; omega, fun s hs => by have := h.par s hs; omega, by have := h.ntags; omega, fun t ht => by have := h.tags t ht; omega, by have := h.user; omega⟩
noncomputable def finR (K : Nat) (s : List UInt8) (c : DChk) : Option (DChk × Bool × Unit) :=
  (ammoniteref10_RightCheckin.f K ((c, ()) : DChk × Unit)).bind fun v_1 => bif (!v_1) then some (zChk, false, ()) else (ammoniteref10_Checkin.f K ((c, ()) : DChk × Unit)).bind fun v_2 => bif (!(decide (v_2 = s))) then some (zChk, false, ()) else some (c, true, ())
theorem finR_eq {s : List UInt8} {c : DChk} (h : FitsK K c) (hP : ∀ m, rightK m = true → chkS m = s → c = m) : ReadsK s (finR K s c) := by
  unfold finR
  rw [rrightK_eq hK hK2 h, Option.bind_some]
  cases hr : rightK c with
  | false => exact ⟨zChk, false, rfl, (fun h => by cases h), fun _ => rfl, fun m h1 h2 => by rw [← hP m h1 h2, hr] at h1; cases h1⟩
  | true =>
    rw [rchk_ok hK hK2 (rightK_ok hr)]
    by_cases e : chkS c = s
    · exact ⟨c, true, by simp [e], fun _ => ⟨hr, e⟩, (fun h => by cases h), fun m m1 m2 => ⟨rfl, hP m m1 m2⟩⟩
    · exact ⟨zChk, false, by simp [e], (fun h => by cases h), fun _ => rfl, fun m h1 h2 => by have := hP m h1 h2; rw [← this] at h2; exact absurd h2 e⟩
theorem rdecV_eq {a : List UInt8} (ha : a.length < 300000) : ammoniteref1_ReadDec.f K ((a, ()) : List UInt8 × Unit) = some (rdecV K a) ∧ (∀ m : Int, 0 ≤ m → m ≤ 1073741824 → decS m = a → rdecV K a = m) := by
  have _h := hK2
  obtain ⟨v, v1, v2, v3, v4⟩ := rreaddec_eq hK (s := a) (by omega)
  have e : rdecV K a = v := by unfold rdecV; rw [v1]; rfl
  rw [e]
  exact ⟨v1, v4⟩
theorem rcread_loop (s : List UInt8) (l : List DCard) (hl : l.length < 300000) (hb : ∀ c ∈ l, (∀ a ∈ c.2.1, a.length < 300000 ∧ a ≠ []) ∧ c.2.1.length < 300000) (z0 z1 : List UInt8) (z2 : Int) (z6 : List UInt8) (t : Int) (ht : t = (l.length : Int)) :
    ∀ (r : List DCard) (k n : Nat) (st : DChk), l.drop k = r → k ≤ l.length → r.length < n → BdK k st →
    ammoniteref10_ReadCheckin.l9 K n s l t k z0 z1 z2 z6 st.1 st.2.1 st.2.2.1 st.2.2.2.1 st.2.2.2.2.1 st.2.2.2.2.2.1 st.2.2.2.2.2.2.1 = (match foldK K r st with | some c => finR K s c | none => some (zChk, false, ())) := by
  subst ht
  intro r
  induction r with
  | nil =>
    intro k n st hd hk hn hB
    have := drop_nil hd hk
    subst this
    obtain ⟨n, rfl⟩ : ∃ m, n = m + 1 := ⟨n - 1, by omega⟩
    rw [ammoniteref10_ReadCheckin.l9_succ]
    simp only [Int.lt_irrefl, decide_false, cond_false]
    rfl
  | cons x r ih =>
    intro k n st hd hk hn hB
    obtain ⟨n, rfl⟩ : ∃ m, n = m + 1 := ⟨n - 1, by omega⟩
    simp only [List.length_cons] at hn
    obtain ⟨hg, hlt, hd'⟩ := getD_drop (d := DTy.dflt (.prod (.int .u8) (.prod (.slice .str) .unit))) hd
    obtain ⟨hx, hxl⟩ := hb x (List.mem_of_mem_drop (i := k) (by rw [hd]; exact List.mem_cons_self))
    have h1 : (k : Int) < (l.length : Int) := by omega
    have hnf := hB.nfiles
    have ihn : ∀ st' : DChk, stepK K st x = some st' → ammoniteref10_ReadCheckin.r9 K n (ammoniteref10_ReadCheckin.m9 s l (l.length : Int) ((k + 1 : Nat) : Int) z0 z1 z2 z6 st'.1 st'.2.1 st'.2.2.1 st'.2.2.2.1 st'.2.2.2.2.1 st'.2.2.2.2.2.1 st'.2.2.2.2.2.2.1) = (match foldK K (x :: r) st with | some c => finR K s c | none => some (zChk, false, ())) := by
      intro st' he
      rw [foldK, he, Option.bind_some]
      exact ih (k + 1) n st' hd' (by omega) (by omega) (stepK_bd hB (fun a ha => (hx a ha).1) hxl he)
    have hno : stepK K st x = none → (some (zChk, false, ()) : Option (DChk × Bool × Unit)) = (match foldK K (x :: r) st with | some c => finR K s c | none => some (zChk, false, ())) := by
      intro he
      rw [foldK, he]
      rfl
    obtain ⟨letter, args, ⟨⟩⟩ := x
    generalize (match foldK K ((letter, args, ()) :: r) st with | some c => finR K s c | none => some (zChk, false, ())) = R at ihn hno ⊢
    rw [ammoniteref10_ReadCheckin.l9_succ]
    simp only [h1, Int.natCast_nonneg, decide_true, cond_true, chks_t, chks_nil, Int.toNat_natCast, hg]
    have h26 : (letter = 80 → stepK K st (letter, args, ()) = some (st.1, st.2.1, st.2.2.1, st.2.2.2.1, args, st.2.2.2.2.2.1, st.2.2.2.2.2.2.1, ())) → (letter = 84 → stepK K st (letter, args, ()) = some st) → (letter = 85 → ∀ a, args = [a] → stepK K st (letter, args, ()) = some (st.1, st.2.1, st.2.2.1, st.2.2.2.1, st.2.2.2.2.1, st.2.2.2.2.2.1, a, ())) →
        (letter ≠ 80 → letter ≠ 84 → (letter = 85 → args.length ≠ 1) → stepK K st (letter, args, ()) = none) →
        ammoniteref10_ReadCheckin.j26 K (ammoniteref10_ReadCheckin.r9 K n) s (args.length : Int) l (l.length : Int) (k : Int) z0 z1 z2 z6 st.1 st.2.1 st.2.2.1 st.2.2.2.1 st.2.2.2.2.1 st.2.2.2.2.2.1 st.2.2.2.2.2.2.1 letter args = R := by
      intro g80 g84 g85 gno
      rw [ammoniteref10_ReadCheckin.j26_eq (by omega), wS (by omega)]
      by_cases c80 : letter = 80
      · simp only [c80, decide_true, cond_true]
        exact ihn _ (g80 c80)
      · by_cases c84 : letter = 84
        · simp only [c84, show ¬ ((84 : Int) = 80) by decide, decide_true, decide_false, cond_true, cond_false]
          exact ihn _ (g84 c84)
        · by_cases c85 : letter = 85
          · by_cases cl : args.length = 1
            · obtain ⟨a, rfl⟩ := List.length_eq_one_iff.1 cl
              have e1 : decide ((([a] : List (List UInt8)).length : Int) = 1) = true := rfl
              have e2 : decide ((0 : Int) < (([a] : List (List UInt8)).length : Int)) = true := rfl
              have e3 : ([a] : List (List UInt8)).getD (Int.toNat 0) (DTy.dflt .str) = a := rfl
              simp only [c85, e1, e2, e3, show ¬ ((85 : Int) = 80) by decide, show ¬ ((85 : Int) = 84) by decide, decide_true, decide_false, cond_true, cond_false, chks_t, chks_nil]
              exact ihn _ (g85 c85 a rfl)
            · have e1 : ¬ ((args.length : Int) = 1) := by omega
              simp only [c85, e1, show ¬ ((85 : Int) = 80) by decide, show ¬ ((85 : Int) = 84) by decide, decide_true, decide_false, cond_true, cond_false]
              exact hno (gno c80 c84 fun _ => cl)
          · simp only [c80, c84, c85, decide_false, cond_false]
            exact hno (gno c80 c84 fun h => absurd h c85)
    match args, hx, hxl, h26, ihn, hno with
    | [], hx, hxl, h26, ihn, hno =>
      have e1 : decide ((([] : List (List UInt8)).length : Int) = 1) = false := rfl
      have e2 : decide ((([] : List (List UInt8)).length : Int) = 2) = false := rfl
      have h := h26 (fun h => by rw [h]; rfl) (fun h => by rw [h]; rfl) (fun _ a h => by cases h) (fun a b _ => by simp [stepK, a, b])
      have h24 : ammoniteref10_ReadCheckin.j24 K (ammoniteref10_ReadCheckin.r9 K n) s (([] : List (List UInt8)).length : Int) l (l.length : Int) (k : Int) z0 z1 z2 z6 st.1 st.2.1 st.2.2.1 st.2.2.2.1 st.2.2.2.2.1 st.2.2.2.2.2.1 st.2.2.2.2.2.2.1 letter [] = R := by
        rw [ammoniteref10_ReadCheckin.j24_eq (by omega), h, e2]; cases decide (letter = 70) <;> rfl
      have h22 : ammoniteref10_ReadCheckin.j22 K (ammoniteref10_ReadCheckin.r9 K n) s (([] : List (List UInt8)).length : Int) l (l.length : Int) (k : Int) z0 z1 z2 z6 st.1 st.2.1 st.2.2.1 st.2.2.2.1 st.2.2.2.2.1 st.2.2.2.2.2.1 st.2.2.2.2.2.2.1 letter [] = R := by
        rw [ammoniteref10_ReadCheckin.j22_eq (by omega), h24, e1]; cases decide (letter = 70) <;> rfl
      have h20 : ammoniteref10_ReadCheckin.j20 K (ammoniteref10_ReadCheckin.r9 K n) s (([] : List (List UInt8)).length : Int) l (l.length : Int) (k : Int) z0 z1 z2 z6 st.1 st.2.1 st.2.2.1 st.2.2.2.1 st.2.2.2.2.1 st.2.2.2.2.2.1 st.2.2.2.2.2.2.1 letter [] = R := by
        rw [ammoniteref10_ReadCheckin.j20_eq (by omega), h22, e1]; cases decide (letter = 68) <;> rfl
      have h15 : ammoniteref10_ReadCheckin.j15 K (ammoniteref10_ReadCheckin.r9 K n) s (([] : List (List UInt8)).length : Int) l (l.length : Int) (k : Int) z0 z1 z2 z6 st.1 st.2.1 st.2.2.1 st.2.2.2.1 st.2.2.2.2.1 st.2.2.2.2.2.1 st.2.2.2.2.2.2.1 letter [] = R := by
        rw [ammoniteref10_ReadCheckin.j15_eq (by omega), h20, e1]; cases decide (letter = 67) <;> rfl
      rw [h15, e1]; cases decide (letter = 66) <;> rfl
    | a :: b :: c :: q, hx, hxl, h26, ihn, hno =>
      have e1 : decide (((a :: b :: c :: q : List (List UInt8)).length : Int) = 1) = false := decide_eq_false (by simp only [List.length_cons]; omega)
      have e2 : decide (((a :: b :: c :: q : List (List UInt8)).length : Int) = 2) = false := decide_eq_false (by simp only [List.length_cons]; omega)
      have h := h26 (fun h => by rw [h]; rfl) (fun h => by rw [h]; rfl) (fun _ a h => by cases h) (fun a b _ => by simp [stepK, a, b])
      have h24 : ammoniteref10_ReadCheckin.j24 K (ammoniteref10_ReadCheckin.r9 K n) s ((a :: b :: c :: q : List (List UInt8)).length : Int) l (l.length : Int) (k : Int) z0 z1 z2 z6 st.1 st.2.1 st.2.2.1 st.2.2.2.1 st.2.2.2.2.1 st.2.2.2.2.2.1 st.2.2.2.2.2.2.1 letter (a :: b :: c :: q) = R := by
        rw [ammoniteref10_ReadCheckin.j24_eq (by omega), h, e2]; cases decide (letter = 70) <;> rfl
      have h22 : ammoniteref10_ReadCheckin.j22 K (ammoniteref10_ReadCheckin.r9 K n) s ((a :: b :: c :: q : List (List UInt8)).length : Int) l (l.length : Int) (k : Int) z0 z1 z2 z6 st.1 st.2.1 st.2.2.1 st.2.2.2.1 st.2.2.2.2.1 st.2.2.2.2.2.1 st.2.2.2.2.2.2.1 letter (a :: b :: c :: q) = R := by
        rw [ammoniteref10_ReadCheckin.j22_eq (by omega), h24, e1]; cases decide (letter = 70) <;> rfl
      have h20 : ammoniteref10_ReadCheckin.j20 K (ammoniteref10_ReadCheckin.r9 K n) s ((a :: b :: c :: q : List (List UInt8)).length : Int) l (l.length : Int) (k : Int) z0 z1 z2 z6 st.1 st.2.1 st.2.2.1 st.2.2.2.1 st.2.2.2.2.1 st.2.2.2.2.2.1 st.2.2.2.2.2.2.1 letter (a :: b :: c :: q) = R := by
        rw [ammoniteref10_ReadCheckin.j20_eq (by omega), h22, e1]; cases decide (letter = 68) <;> rfl
      have h15 : ammoniteref10_ReadCheckin.j15 K (ammoniteref10_ReadCheckin.r9 K n) s ((a :: b :: c :: q : List (List UInt8)).length : Int) l (l.length : Int) (k : Int) z0 z1 z2 z6 st.1 st.2.1 st.2.2.1 st.2.2.2.1 st.2.2.2.2.1 st.2.2.2.2.2.1 st.2.2.2.2.2.2.1 letter (a :: b :: c :: q) = R := by
        rw [ammoniteref10_ReadCheckin.j15_eq (by omega), h20, e1]; cases decide (letter = 67) <;> rfl
      rw [h15, e1]; cases decide (letter = 66) <;> rfl
    | [a, b], hx, hxl, h26, ihn, hno =>
      have e1 : decide ((([a, b] : List (List UInt8)).length : Int) = 1) = false := rfl
      have e2 : decide ((([a, b] : List (List UInt8)).length : Int) = 2) = true := rfl
      have e3 : decide ((0 : Int) < (([a, b] : List (List UInt8)).length : Int)) = true := rfl
      have e4 : decide ((1 : Int) < (([a, b] : List (List UInt8)).length : Int)) = true := rfl
      have g0 : ([a, b] : List (List UInt8)).getD (Int.toNat 0) (DTy.dflt .str) = a := rfl
      have g1 : ([a, b] : List (List UInt8)).getD (Int.toNat 1) (DTy.dflt .str) = b := rfl
      have h24 : ammoniteref10_ReadCheckin.j24 K (ammoniteref10_ReadCheckin.r9 K n) s (([a, b] : List (List UInt8)).length : Int) l (l.length : Int) (k : Int) z0 z1 z2 z6 st.1 st.2.1 st.2.2.1 st.2.2.2.1 st.2.2.2.2.1 st.2.2.2.2.2.1 st.2.2.2.2.2.2.1 letter [a, b] = R := by
        rw [ammoniteref10_ReadCheckin.j24_eq (by omega)]
        by_cases c70 : letter = 70
        · simp only [c70, e2, e3, e4, g0, g1, decide_true, cond_true, chks_t, chks_nil]
          rw [growOk_t (by omega) (by simp; omega), chks_t, chks_nil, wS (by omega)]
          exact ihn _ (by rw [c70]; rfl)
        · have h := h26 (fun h => by rw [h]; rfl) (fun h => by rw [h]; rfl) (fun _ a h => by cases h) (fun u v _ => by simp [stepK, c70, u, v])
          rw [h]
          simp only [c70, decide_false, cond_false]
      have h22 : ammoniteref10_ReadCheckin.j22 K (ammoniteref10_ReadCheckin.r9 K n) s (([a, b] : List (List UInt8)).length : Int) l (l.length : Int) (k : Int) z0 z1 z2 z6 st.1 st.2.1 st.2.2.1 st.2.2.2.1 st.2.2.2.2.1 st.2.2.2.2.2.1 st.2.2.2.2.2.2.1 letter [a, b] = R := by
        rw [ammoniteref10_ReadCheckin.j22_eq (by omega), h24, e1]; cases decide (letter = 70) <;> rfl
      have h20 : ammoniteref10_ReadCheckin.j20 K (ammoniteref10_ReadCheckin.r9 K n) s (([a, b] : List (List UInt8)).length : Int) l (l.length : Int) (k : Int) z0 z1 z2 z6 st.1 st.2.1 st.2.2.1 st.2.2.2.1 st.2.2.2.2.1 st.2.2.2.2.2.1 st.2.2.2.2.2.2.1 letter [a, b] = R := by
        rw [ammoniteref10_ReadCheckin.j20_eq (by omega), h22, e1]; cases decide (letter = 68) <;> rfl
      have h15 : ammoniteref10_ReadCheckin.j15 K (ammoniteref10_ReadCheckin.r9 K n) s (([a, b] : List (List UInt8)).length : Int) l (l.length : Int) (k : Int) z0 z1 z2 z6 st.1 st.2.1 st.2.2.1 st.2.2.2.1 st.2.2.2.2.1 st.2.2.2.2.2.1 st.2.2.2.2.2.2.1 letter [a, b] = R := by
        rw [ammoniteref10_ReadCheckin.j15_eq (by omega), h20, e1]; cases decide (letter = 67) <;> rfl
      rw [h15, e1]; cases decide (letter = 66) <;> rfl
    | [a], hx, hxl, h26, ihn, hno =>
      have e1 : decide ((([a] : List (List UInt8)).length : Int) = 1) = true := rfl
      have e2 : decide ((([a] : List (List UInt8)).length : Int) = 2) = false := rfl
      have e3 : decide ((0 : Int) < (([a] : List (List UInt8)).length : Int)) = true := rfl
      have g0 : ([a] : List (List UInt8)).getD (Int.toNat 0) (DTy.dflt .str) = a := rfl
      obtain ⟨ha, hne⟩ := hx a (by simp)
      have h24 : ¬ letter = 66 → ¬ letter = 67 → ¬ letter = 68 → ¬ letter = 70 → ammoniteref10_ReadCheckin.j24 K (ammoniteref10_ReadCheckin.r9 K n) s (([a] : List (List UInt8)).length : Int) l (l.length : Int) (k : Int) z0 z1 z2 z6 st.1 st.2.1 st.2.2.1 st.2.2.2.1 st.2.2.2.2.1 st.2.2.2.2.2.1 st.2.2.2.2.2.2.1 letter [a] = R := by
        intro c66 c67 c68 c70
        rw [ammoniteref10_ReadCheckin.j24_eq (by omega), e2]
        have h := h26 (fun h => by rw [h]; rfl) (fun h => by rw [h]; rfl) (fun h b e => by cases e; rw [h]; rfl) (fun u v w => by
          have c85 : ¬ letter = 85 := fun h => w h rfl
          simp [stepK, c66, c67, c68, c70, u, v, c85])
        rw [h]
        cases decide (letter = 70) <;> rfl
      have h22 : ¬ letter = 66 → ¬ letter = 67 → ¬ letter = 68 → ammoniteref10_ReadCheckin.j22 K (ammoniteref10_ReadCheckin.r9 K n) s (([a] : List (List UInt8)).length : Int) l (l.length : Int) (k : Int) z0 z1 z2 z6 st.1 st.2.1 st.2.2.1 st.2.2.2.1 st.2.2.2.2.1 st.2.2.2.2.2.1 st.2.2.2.2.2.2.1 letter [a] = R := by
        intro c66 c67 c68
        rw [ammoniteref10_ReadCheckin.j22_eq (by omega)]
        by_cases c70 : letter = 70
        · simp only [c70, e1, e3, g0, decide_true, cond_true, chks_t, chks_nil]
          rw [growOk_t (by omega) (by simp; omega), chks_t, chks_nil, wS (by omega)]
          exact ihn _ (by rw [c70]; rfl)
        · rw [h24 c66 c67 c68 c70]
          simp only [c70, decide_false, cond_false]
      have h20 : ¬ letter = 66 → ¬ letter = 67 → ammoniteref10_ReadCheckin.j20 K (ammoniteref10_ReadCheckin.r9 K n) s (([a] : List (List UInt8)).length : Int) l (l.length : Int) (k : Int) z0 z1 z2 z6 st.1 st.2.1 st.2.2.1 st.2.2.2.1 st.2.2.2.2.1 st.2.2.2.2.2.1 st.2.2.2.2.2.2.1 letter [a] = R := by
        intro c66 c67
        rw [ammoniteref10_ReadCheckin.j20_eq (by omega)]
        by_cases c68 : letter = 68
        · simp only [c68, e1, e3, g0, decide_true, cond_true, chks_t, chks_nil]
          rw [(rdecV_eq hK hK2 ha).1, Option.bind_some, wS (by omega)]
          exact ihn _ (by rw [c68]; rfl)
        · rw [h22 c66 c67 c68]
          simp only [c68, decide_false, cond_false]
      have h15 : ¬ letter = 66 → ammoniteref10_ReadCheckin.j15 K (ammoniteref10_ReadCheckin.r9 K n) s (([a] : List (List UInt8)).length : Int) l (l.length : Int) (k : Int) z0 z1 z2 z6 st.1 st.2.1 st.2.2.1 st.2.2.2.1 st.2.2.2.2.1 st.2.2.2.2.2.1 st.2.2.2.2.2.2.1 letter [a] = R := by
        intro c66
        rw [ammoniteref10_ReadCheckin.j15_eq (by omega)]
        by_cases c67 : letter = 67
        · have ep : decide ((0 : Int) < (a.length : Int)) = true := decide_eq_true (by have := List.length_pos_iff.2 hne; omega)
          have ep1 : decide ((1 : Int) ≤ (a.length : Int)) = true := decide_eq_true (by have := List.length_pos_iff.2 hne; omega)
          simp only [e1, e3, g0, ep, ep1, cond_true, chks_t, chks_nil]
          rw [show decide (letter = 67) = true by simp [c67], cond_true]
          by_cases c46 : a.getD 0 0 = 46
          · have q : ((a.getD (Int.toNat 0) 0).toNat : Int) = 46 := by rw [show Int.toNat 0 = 0 from rfl, c46]; rfl
            simp only [q, decide_true, cond_true]
            rw [show cutL a (some (1 : Int)) none = a.drop 1 from cutL_from a 1, unescape_eq hK (by rw [List.length_drop]; omega), Option.bind_some, wS (by omega)]
            cases e : unesc (a.drop 1) with
            | none => exact hno (by rw [c67]; show (if a.getD 0 0 = 46 then (unesc (a.drop 1)).map _ else none) = _; rw [if_pos c46, e]; rfl)
            | some t => exact ihn (st.1, t, st.2.2.1, st.2.2.2.1, st.2.2.2.2.1, st.2.2.2.2.2.1, st.2.2.2.2.2.2.1, ()) (by rw [c67]; show (if a.getD 0 0 = 46 then (unesc (a.drop 1)).map _ else none) = _; rw [if_pos c46, e]; rfl)
          · have q : ¬ (((a.getD (Int.toNat 0) 0).toNat : Int) = 46) := fun e => c46 ((byte_eq _ 46 (by decide)).1 e)
            simp only [q, decide_false, cond_false]
            have hz : stepK K st (letter, [a], ()) = none := by simp [stepK, c67]; intro h; exact absurd h (by simpa using c46)
            rw [ammoniteref10_ReadCheckin.j20_eq (by omega), show decide (letter = 68) = false by simp [c67], cond_false, ammoniteref10_ReadCheckin.j22_eq (by omega), show decide (letter = 70) = false by simp [c67], cond_false, ammoniteref10_ReadCheckin.j24_eq (by omega), show decide (letter = 70) = false by simp [c67], cond_false, ammoniteref10_ReadCheckin.j26_eq (by omega), show decide (letter = 80) = false by simp [c67], show decide (letter = 84) = false by simp [c67], show decide (letter = 85) = false by simp [c67]]
            exact hno hz
        · rw [h20 c66 c67, show decide (letter = 67) = false by simp [c67], cond_false]
      by_cases c66 : letter = 66
      · simp only [c66, e1, e3, g0, decide_true, cond_true, chks_t, chks_nil]
        rw [wS (by omega)]
        exact ihn _ (by rw [c66]; rfl)
      · rw [h15 c66, show decide (letter = 66) = false by simp [c66], cond_false]
theorem foldK_app : ∀ (a b : List DCard) (st : DChk), foldK K (a ++ b) st = (foldK K a st).bind (foldK K b) := by
  have _h := hK
  have _h2 := hK2
  intro a
  induction a with
  | nil => intro b st; rfl
  | cons x a ih =>
    intro b st
    rw [List.cons_append, foldK, foldK]
    cases e : stepK K st x with
    | none => rfl
    | some st' => rw [Option.bind_some, Option.bind_some, ih]
theorem foldK_chk {m : DChk} (h : OkChk m) : foldK K (chkCards m) ([], [], 0, [], [], m.2.2.2.2.2.1, [], ()) = some m := by
  obtain ⟨b, cm, d, fs, ps, ts, u, ⟨⟩⟩ := m
  have hd : rdecV K (decS d) = d := (rdecV_eq hK hK2 (a := decS d) (by have := decS_len d; omega)).2 d h.d0 h.d1 rfl
  have hbase : foldK K (baseCards b) ([], [], 0, [], [], ts, [], ()) = some (b, [], 0, [], [], ts, [], ()) := by
    unfold baseCards
    by_cases e : b = []
    · rw [if_pos e, e]; rfl
    · rw [if_neg e]; rfl
  have hhead : foldK K (headCards (b, cm, d, fs, ps, ts, u, ())) (b, [], 0, [], [], ts, [], ()) = some (b, cm, d, [], [], ts, [], ()) := by
    have e1 : stepK K (b, [], 0, [], [], ts, [], ()) ((67, [[46] ++ escS cm], ()) : DCard) = some (b, cm, 0, [], [], ts, [], ()) := by
      show (if (46 : UInt8) = 46 then (unesc (escS cm)).map _ else none) = _
      rw [if_pos rfl, unesc_escS]
      rfl
    unfold headCards
    rw [foldK, e1, Option.bind_some, foldK]
    show (some (b, cm, rdecV K (decS d), [], [], ts, [], ())).bind (foldK K []) = _
    rw [hd]
    rfl
  have hfiles : ∀ (r : List DFile) (acc : List DFile), foldK K (r.map fileCard) (b, cm, d, acc, [], ts, [], ()) = some (b, cm, d, acc ++ r, [], ts, [], ()) := by
    intro r
    induction r with
    | nil => intro acc; simp [foldK]
    | cons f r ih =>
      intro acc
      have e : stepK K (b, cm, d, acc, [], ts, [], ()) (fileCard f) = some (b, cm, d, acc ++ [f], [], ts, [], ()) := by
        obtain ⟨x, y, ⟨⟩⟩ := f
        unfold fileCard
        by_cases e : y = []
        · subst e; rfl
        · simp only [e, if_false]; rfl
      rw [List.map_cons, foldK, e, Option.bind_some, ih]
      simp
  have hpar : foldK K (parCards ps) (b, cm, d, fs, [], ts, [], ()) = some (b, cm, d, fs, ps, ts, [], ()) := by
    unfold parCards
    by_cases e : ps = []
    · rw [if_pos e, e]; rfl
    · rw [if_neg e]
      have : stepK K (b, cm, d, fs, [], ts, [], ()) ((80, ps, ()) : DCard) = some (b, cm, d, fs, ps, ts, [], ()) := by
        match ps, e with
        | [a], _ => rfl
        | [a, c], _ => rfl
        | a :: c :: x :: q, _ => rfl
      rw [foldK, this]
      rfl
  have htags : ∀ r : List DTag, foldK K (r.map tagCard) (b, cm, d, fs, ps, ts, [], ()) = some (b, cm, d, fs, ps, ts, [], ()) := by
    intro r
    induction r with
    | nil => rfl
    | cons t r ih =>
      have e : stepK K (b, cm, d, fs, ps, ts, [], ()) (tagCard t) = some (b, cm, d, fs, ps, ts, [], ()) := by
        unfold tagCard
        by_cases hv : t.2.2.2.1 = []
        · rw [tagArgs_nil hv]; rfl
        · rw [tagArgs_ne hv]; rfl
      rw [List.map_cons, foldK, e, Option.bind_some, ih]
  have hf0 := hfiles fs []
  rw [List.nil_append] at hf0
  unfold chkCards
  rw [foldK_app hK hK2, foldK_app hK hK2, foldK_app hK hK2, foldK_app hK hK2, foldK_app hK hK2, hbase, Option.bind_some, hhead, Option.bind_some]
  show ((((foldK K (fs.map fileCard) (b, cm, d, [], [], ts, [], ())).bind (foldK K (parCards ps))).bind (foldK K (ts.map tagCard))).bind (foldK K [(85, [u], ())])) = _
  rw [hf0, Option.bind_some, hpar, Option.bind_some, htags, Option.bind_some]
  rfl
theorem foldK_bd : ∀ (r : List DCard) (st c : DChk) (n : Nat), (∀ x ∈ r, (∀ a ∈ x.2.1, a.length < 300000) ∧ x.2.1.length < 300000) → BdK n st → foldK K r st = some c → BdK (n + r.length) c := by
  have _h := hK
  have _h2 := hK2
  intro r
  induction r with
  | nil => intro st c n _ h e; cases e; exact h
  | cons x r ih =>
    intro st c n hx h e
    rw [foldK] at e
    cases e2 : stepK K st x with
    | none => rw [e2] at e; cases e
    | some st' =>
      rw [e2] at e
      have := ih st' c (n + 1) (fun y hy => hx y (List.mem_cons_of_mem _ hy)) (stepK_bd h (hx x List.mem_cons_self).1 (hx x List.mem_cons_self).2 e2) e
      rw [List.length_cons, show n + (r.length + 1) = n + 1 + r.length by omega]
      exact this
theorem rchkRead_eq {s : List UInt8} (hs : s.length < 300000) : ReadsK s (ammoniteref10_ReadCheckin.f K ((s, ()) : List UInt8 × Unit)) := by
  obtain ⟨l, ok, h1, h2, h3, h4⟩ := cards_eq hK hs
  have hm : ∀ m, rightK m = true → chkS m = s → ok = true ∧ l = chkCards m := fun m m1 m2 => by
    have ho := rightK_ok m1
    exact h4 (chkCards m) (chk_right ho).1 (by rw [chk_printS ho]; exact m2)
  rw [ammoniteref10_ReadCheckin.eq, h1, Option.bind_some]
  dsimp only
  cases ok with
  | false => exact ⟨zChk, false, rfl, (fun h => by cases h), fun _ => rfl, fun m m1 m2 => by have := (hm m m1 m2).1; cases this⟩
  | true =>
    obtain ⟨hr, hp⟩ := h2 rfl
    obtain ⟨b1, b2, b3⟩ := printB hr hp hs
    have hargs : ∀ c ∈ l, (∀ a ∈ c.2.1, a.length < 300000 ∧ a ≠ []) ∧ c.2.1.length < 300000 := by
      intro c hc
      have hok : okRow none l = true := by unfold rightB at hr; simp only [Bool.and_eq_true] at hr; exact hr.1
      have hcok := okRow_mem hok c hc
      refine ⟨fun a ha => ⟨b3 c hc a ha, (okArg_iff.1 (hcok.arg a ha)).1⟩, ?_⟩
      have h := args_num c
      have h2 := body_mem l c hc
      have h3 : s.length = (bodyS l).length + 43 := by
        unfold printS at hp
        rw [hr] at hp
        have hp : sealS (bodyS l) = s := hp
        rw [← hp]; unfold sealS; simp only [List.length_append, List.length_cons, List.length_nil, sumS_len]
      omega
    rw [readOps_eq hK (l := l) (by omega) (fun c hc a ha => by have := b3 c hc a ha; omega), Option.bind_some]
    simp only [Bool.not_true, cond_false]
    cases etg : tagsOf (argsT l) with
    | none =>
      refine ⟨zChk, false, rfl, (fun h => by cases h), fun _ => rfl, fun m m1 m2 => ?_⟩
      exfalso
      have ho := rightK_ok m1
      rw [(hm m m1 m2).2, ← argsOf_T, (chk_args m).2.2.2.2.2.1, tagsOf_args fun t ht => (ho.tags t ht).range] at etg
      cases etg
    | some ts =>
      obtain ⟨t1, t2⟩ := tagsOf_len (m := 299999) etg fun a ha x hx => by
        obtain ⟨c, c1, -, c2⟩ := argsT_mem ha
        have := b3 c c1 x (by rw [c2]; exact hx)
        omega
      have h84 := argsOf_len 84 l
      rw [argsOf_T] at h84
      have hB0 : BdK 0 ([], [], 0, [], [], ts, [], ()) := ⟨by show 0 < 300000; omega, (fun f hf => by cases hf), Nat.le_refl _, by show 0 < 300000; omega, (fun f hf => by cases hf), by show ts.length < 300000; omega, fun t ht => by have := t2 t ht; omega, by show 0 < 300000; omega⟩
      have hloop := rcread_loop hK hK2 s l b2 hargs [] [] 0 [] _ rfl l 0 K ([], [], 0, [], [], ts, [], ()) rfl (Nat.zero_le _) (by omega) hB0
      show ReadsK s (ammoniteref10_ReadCheckin.l9 K K s l (l.length : Int) (0 : Int) [] [] 0 [] [] [] 0 [] [] ts [])
      refine (congrArg (ReadsK s) hloop).mpr ?_
      have hcompl : ∀ m, rightK m = true → chkS m = s → foldK K l ([], [], 0, [], [], ts, [], ()) = some m := by
        intro m m1 m2
        have ho := rightK_ok m1
        have e := (hm m m1 m2).2
        have etg2 := etg
        rw [e, ← argsOf_T, (chk_args m).2.2.2.2.2.1, tagsOf_args fun t ht => (ho.tags t ht).range] at etg2
        have := foldK_chk hK hK2 ho
        rw [Option.some.inj etg2, ← e] at this
        exact this
      cases ef : foldK K l ([], [], 0, [], [], ts, [], ()) with
      | none => exact ⟨zChk, false, rfl, (fun h => by cases h), fun _ => rfl, fun m m1 m2 => by have := hcompl m m1 m2; rw [ef] at this; cases this⟩
      | some c =>
        have hbd := foldK_bd hK hK2 l _ c 0 (fun x hx => ⟨fun a ha => ((hargs x hx).1 a ha).1, (hargs x hx).2⟩) hB0 ef
        exact finR_eq hK hK2 (BdK.fits hK hK2 hbd (by omega)) fun m m1 m2 => by have := hcompl m m1 m2; rw [ef] at this; exact Option.some.inj this
end
end Go.Proofs.Ytaoadbkoambjbaa.Ab
