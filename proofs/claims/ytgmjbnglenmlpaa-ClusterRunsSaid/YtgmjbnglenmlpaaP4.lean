/- The reference's words and Cards: what they compute. -/
import Derived.Test.YtgmjbnglenmlpaaP3
set_option linter.unusedVariables false
set_option linter.unusedSimpArgs false
namespace Go.Proofs.Ytgmjbnglenmlpaa.Ab
open Go Go.RowKit Go.Proofs.Ytgmjbnglenmlpaa.Given
theorem words_loop {K : Nat} (s : List UInt8) (hs : s.length < 1000000) : ∀ (r : List UInt8) (w : List UInt8) (b i n : Nat) (out : List (List UInt8)), s.drop i = r → s.drop b = w ++ r → i = b + w.length → i ≤ s.length → ¬ (32 : UInt8) ∈ w → r.length + 1 < n → out.length ≤ i →
    ammoniteref10_words.l4 K n s out b i = some (out ++ splitL 32 (w ++ r)) := by
  intro r
  induction r with
  | nil =>
    intro w b i n out hi hb hib his hw hn ho
    obtain ⟨n, rfl⟩ : ∃ m, n = m + 1 := ⟨n - 1, by omega⟩
    obtain ⟨n, rfl⟩ : ∃ m, n = m + 1 := ⟨n - 1, by simp at hn; omega⟩
    have hil := drop_nil hi his
    have h1 : (i : Int) ≤ (s.length : Int) := by omega
    have h2 : (i : Int) = (s.length : Int) := by omega
    have h3 : (b : Int) ≤ (s.length : Int) := by omega
    have hcut : (s.take i).drop b = w := by rw [hil, List.take_length, hb, List.append_nil]
    rw [ammoniteref10_words.l4_succ]
    simp only [h1, h2, h3, Int.natCast_nonneg, decide_true, cond_true, chks_t, chks_nil, Int.le_refl]
    rw [← h2, cutL_mid, hcut, growOk_t (by omega) (by simp; omega), chks_t, chks_nil, wS (by omega), ammoniteref10_words.l4_succ]
    have h4 : ¬ (((i + 1 : Nat) : Int) ≤ (s.length : Int)) := by omega
    simp only [h4, decide_false, cond_false, List.append_nil]
    rw [splitL_no hw]
  | cons x r ih =>
    intro w b i n out hi hb hib his hw hn ho
    obtain ⟨n, rfl⟩ : ∃ m, n = m + 1 := ⟨n - 1, by omega⟩
    simp only [List.length_cons] at hn
    obtain ⟨hg, hlt, hi'⟩ := getD_drop (d := (0 : UInt8)) hi
    have h1 : (i : Int) ≤ (s.length : Int) := by omega
    have h2 : ¬ ((i : Int) = (s.length : Int)) := by omega
    have h3 : (i : Int) < (s.length : Int) := by omega
    have h4 : (b : Int) ≤ (i : Int) := by omega
    rw [ammoniteref10_words.l4_succ]
    simp only [h1, h2, h3, h4, Int.natCast_nonneg, decide_true, decide_false, cond_true, cond_false, chks_t, chks_nil, Int.toNat_natCast, hg]
    by_cases hx : x = 32
    · subst hx
      have hx' : (((32 : UInt8).toNat : Int) = 32) := rfl
      have hcut : (s.take i).drop b = w := by
        have : ((s.take i).drop b) = (s.drop b).take (i - b) := by rw [List.drop_take]
        rw [this, hb, hib, Nat.add_sub_cancel_left, List.take_left]
      simp only [hx', decide_true, cond_true]
      rw [cutL_mid, hcut, growOk_t (by omega) (by simp; omega), chks_t, chks_nil, wS (by omega), ih [] (i + 1) (i + 1) n (out ++ [w]) hi' (by simpa using hi') (by simp) (by omega) (by simp) (by omega) (by simp; omega), splitL_yes hw]
      simp
    · have hx' : ¬ ((x.toNat : Int) = 32) := fun e => hx ((byte_eq x 32 (by decide)).1 e)
      simp only [hx', decide_false, cond_false]
      rw [wS (by omega), ih (w ++ [x]) b (i + 1) n out hi' (by simpa using hb) (by simp; omega) (by omega) (by simp; exact ⟨hw, fun e => hx e.symm⟩) (by omega) (by omega)]
      simp
/-- What stands in a line of cards, as the reference reads it. -/
def lineC (w : List UInt8) : Option DCard :=
  match w with
  | [] => none
  | [a] => if 65 ≤ a.toNat ∧ a.toNat ≤ 90 then some ((a.toNat : Int), [], ()) else none
  | a :: b :: r => if 65 ≤ a.toNat ∧ a.toNat ≤ 90 ∧ b = 32 ∧ (splitL 32 r).all (fun x => decide (x ≠ [])) = true then some ((a.toNat : Int), splitL 32 r, ()) else none
theorem lineC_one (a : UInt8) : lineC [a] = if 65 ≤ a.toNat ∧ a.toNat ≤ 90 then some ((a.toNat : Int), [], ()) else none := rfl
theorem lineC_two (a b : UInt8) (r : List UInt8) : lineC (a :: b :: r) = if 65 ≤ a.toNat ∧ a.toNat ≤ 90 ∧ b = 32 ∧ (splitL 32 r).all (fun x => decide (x ≠ [])) = true then some ((a.toNat : Int), splitL 32 r, ()) else none := rfl
theorem lineC_ok {c : DCard} (h : OkC c) : lineC (lineW c) = some c := by
  have hb := letter_back h
  have h1 := h.lo
  have h2 := h.hi
  unfold lineW
  cases hargs : c.2.1 with
  | nil =>
    rw [Lib.join_one, lineC_one, if_pos (by omega), hb]
    congr 1
    show (c.1, [], ()) = c
    rw [← hargs]
  | cons a r =>
    have e : Lib.join ([UInt8.ofNat c.1.toNat] :: a :: r) [32] = UInt8.ofNat c.1.toNat :: 32 :: Lib.join (a :: r) [32] := by rw [Lib.join_cons, Lib.join_cons]; simp [Lib.joinTail]
    rw [e, lineC_two]
    have hsp : splitL 32 (Lib.join (a :: r) [32]) = a :: r := splitL_join (by simp) (fun w hw => (okArg_iff.1 (h.arg w (by rw [hargs]; exact hw))).2.1)
    have hall : (a :: r).all (fun x => decide (x ≠ [])) = true := by
      rw [List.all_eq_true]
      intro x hx
      have := (okArg_iff.1 (h.arg x (by rw [hargs]; exact hx))).1
      simp [this]
    rw [hsp, if_pos ⟨by omega, by omega, rfl, hall⟩, hb]
    congr 1
    show (c.1, a :: r, ()) = c
    rw [← hargs]
theorem lineC_spec {w : List UInt8} {c : DCard} (hw : ¬ (10 : UInt8) ∈ w) (h : lineC w = some c) : lineW c = w ∧ 65 ≤ c.1 ∧ c.1 ≤ 90 ∧ ∀ a ∈ c.2.1, okArg a = true := by
  match w, h with
  | [a], h =>
    rw [lineC_one] at h
    split at h
    · cases h
      refine ⟨?_, by simp; omega, by simp; omega, fun a ha => by cases ha⟩
      unfold lineW
      simp [Lib.join_one]
    · cases h
  | a :: b :: r, h =>
    rw [lineC_two] at h
    split at h
    · rename_i hc
      obtain ⟨h1, h2, rfl, h4⟩ := hc
      cases h
      refine ⟨?_, by simp; omega, by simp; omega, fun x hx => ?_⟩
      · unfold lineW
        dsimp only
        cases hs : splitL 32 r with
        | nil => exact absurd hs (splitL_ne 32 r)
        | cons u v =>
          have e : Lib.join ([UInt8.ofNat ((a.toNat : Int)).toNat] :: u :: v) [32] = UInt8.ofNat ((a.toNat : Int)).toNat :: 32 :: Lib.join (u :: v) [32] := by rw [Lib.join_cons, Lib.join_cons]; simp [Lib.joinTail]
          rw [e, ← hs, join_splitL]
          simp
      · rw [List.all_eq_true] at h4
        refine okArg_iff.2 ⟨by simpa using h4 x hx, splitL_free 32 r x hx, fun hm => hw ?_⟩
        exact List.mem_cons_of_mem _ (List.mem_cons_of_mem _ (splitL_sub 32 r x hx _ hm))
    · cases h
theorem lineC_seal (x : List UInt8) : lineC ([90, 32] ++ sumS x) = some (90, [sumS x], ()) := by
  have hsp := splitL_no (sum_free x).1
  show lineC (90 :: 32 :: sumS x) = _
  have hne : [sumS x].all (fun y => decide (y ≠ [])) = true := by
    simp
    intro e
    have := sumS_len x
    rw [e] at this
    simp at this
  rw [lineC_two, hsp, if_pos ⟨by decide, by decide, rfl, hne⟩]
  rfl
section
variable {K : Nat} (hK : 1000000 ≤ K)
include hK
theorem rwords_eq {s : List UInt8} (hs : s.length < 900000) : ammoniteref10_words.f K ((s, ()) : List UInt8 × Unit) = some (splitL 32 s) := by
  rw [ammoniteref10_words.eq]
  have := words_loop (K := K) s (by omega) s [] 0 0 K [] rfl rfl rfl (Nat.zero_le _) (by simp) (by omega) (Nat.zero_le _)
  simpa using this
/-- What follows a line. -/
noncomputable def cardsNext (s : List UInt8) (out : List DCard) (at_ begin_ : Nat) (go : List DCard → Option ((List DCard) × Bool × Unit)) (c : DCard) : Option ((List DCard) × Bool × Unit) :=
  if c.1 = 90 then (if at_ + 1 = s.length ∧ c.2.1 = [sumS (s.take begin_)] ∧ out ≠ [] then some (out, true, ()) else some ([], false, ()))
  else if okPrev (match out.getLast? with | some x => some x.1 | none => none) c.1 = true then go (out ++ [c]) else some ([], false, ())
theorem cards_args (ρ3 : St → Option ((List DCard) × Bool × Unit)) (s : List UInt8) (hs : s.length < 900000) (out : List DCard) (ho : out.length < 900000) (at_ begin_ : Nat) (ha : at_ < s.length) (hb : begin_ ≤ at_) (letter : Int) (args : List (List UInt8)) (hl : args.length < 900000) :
    ∀ (r : List (List UInt8)) (k n : Nat), args.drop k = r → k ≤ args.length → r.length < n →
    ammoniteref10_Cards.l13 K ρ3 n s out at_ begin_ args args.length k letter args = if r.all (fun x => decide (x ≠ [])) = true then cardsNext s out at_ begin_ (fun o => ρ3 (ammoniteref10_Cards.m3 s o ((at_ + 1 : Nat) : Int) ((at_ + 1 : Nat) : Int))) (letter, args, ()) else some ([], false, ()) := by
  have _hK := hK
  intro r
  induction r with
  | nil =>
    intro k n hd hk hn
    have := drop_nil hd hk
    subst this
    obtain ⟨n, rfl⟩ : ∃ m, n = m + 1 := ⟨n - 1, by omega⟩
    rw [ammoniteref10_Cards.l13_succ]
    simp only [Int.lt_irrefl, decide_false, cond_false, List.all_nil, if_true, wS (show at_ < 4611686018427387904 by omega)]
    unfold cardsNext
    dsimp only
    by_cases h90 : letter = 90
    · simp only [h90, decide_true, cond_true, if_true]
      by_cases hat : at_ + 1 = s.length
      · have hat' : ((at_ + 1 : Nat) : Int) = (s.length : Int) := by omega
        simp only [hat, hat', decide_true, Bool.not_true, cond_false, true_and]
        by_cases hl1 : args.length = 1
        · match args, hl1 with
          | [a], _ =>
            have hbs : (begin_ : Int) ≤ (s.length : Int) := by omega
            simp only [List.length_cons, List.length_nil, Nat.zero_add, show ((1 : Nat) : Int) = 1 from rfl, decide_true, Bool.not_true, cond_false, show (0 : Int) < 1 by decide, chks_t, chks_nil, Int.natCast_nonneg, hbs, cutL_to, Int.toNat_zero, List.getD_cons_zero]
            rw [rsum_eq K (by simp; omega), Option.bind_some]
            by_cases hsum : a = sumS (s.take begin_)
            · simp only [hsum, decide_true, Bool.not_true, cond_false, true_and]
              cases out with
              | nil => simp
              | cons o out =>
                have h0 : ¬ ((((o :: out).length : Nat) : Int) = 0) := by simp only [List.length_cons]; omega
                have h1 : (o :: out) ≠ [] := by simp
                simp only [h0, h1, decide_false, cond_false, ne_eq, not_false_eq_true, if_true]
            · have hsum' : ¬ ([a] = [sumS (s.take begin_)]) := fun e => hsum (by injection e)
              simp only [hsum, hsum', decide_false, Bool.not_false, cond_true, false_and, if_false]
        · have h1 : ¬ ((args.length : Int) = 1) := by omega
          have h2 : ¬ (args = [sumS (s.take begin_)]) := fun e => hl1 (by rw [e]; rfl)
          simp only [h1, h2, decide_false, Bool.not_false, cond_true, false_and, if_false]
      · have hat' : ¬ (((at_ + 1 : Nat) : Int) = (s.length : Int)) := by omega
        simp only [hat, hat', decide_false, Bool.not_false, cond_true, false_and, if_false]
    · simp only [h90, decide_false, cond_false, if_false]
      rcases List.eq_nil_or_concat out with rfl | ⟨o, x, hox⟩
      · simp only [List.length_nil, show ((0 : Nat) : Int) = 0 from rfl, Int.lt_irrefl, decide_false, cond_false, List.getLast?_nil, okPrev, if_true]
        rw [growOk_t (by omega) (by simp), chks_t, chks_nil]
      · try rw [List.concat_eq_append] at hox
        subst hox
        have hol : (o ++ [x]).length = o.length + 1 := by simp
        have hp : (0 : Int) < (((o ++ [x]).length : Nat) : Int) := by omega
        have hw1 : IntKind.wrap .i64 ((((o ++ [x]).length : Nat) : Int) - 1) = (o.length : Int) := by rw [w64 (by omega) (by omega)]; omega
        have hlt : (o.length : Int) < (((o ++ [x]).length : Nat) : Int) := by omega
        have hgx : (o ++ [x]).getD o.length (DTy.dflt (.prod (.int .u8) (.prod (.slice .str) .unit))) = x := by simp
        simp only [hp, decide_true, cond_true, hw1, Int.natCast_nonneg, hlt, chks_t, chks_nil, Int.toNat_natCast, hgx, List.getLast?_append, List.getLast?_singleton, Option.some_or, okPrev]
        by_cases hlx : letter < x.1
        · have : ¬ (x.1 ≤ letter) := by omega
          simp [hlx, this]
        · have : x.1 ≤ letter := by omega
          simp only [hlx, this, decide_true, decide_false, cond_false, if_true]
          rw [growOk_t (by omega) (by simp at ho ⊢; omega), chks_t, chks_nil]
  | cons a r ih =>
    intro k n hd hk hn
    obtain ⟨n, rfl⟩ : ∃ m, n = m + 1 := ⟨n - 1, by omega⟩
    simp only [List.length_cons] at hn
    obtain ⟨hg, hlt, hd'⟩ := getD_drop (d := DTy.dflt .str) hd
    have h1 : (k : Int) < (args.length : Int) := by omega
    rw [ammoniteref10_Cards.l13_succ]
    simp only [h1, Int.natCast_nonneg, decide_true, cond_true, chks_t, chks_nil, Int.toNat_natCast, hg, wS (show k < 4611686018427387904 by omega)]
    rw [ih (k + 1) n hd' (by omega) (by omega), List.all_cons]
    by_cases e1 : a = []
    · simp [e1]
    · simp [e1]
/-- A line, from its end on. -/
theorem cards_line (s : List UInt8) (hs : s.length < 300000) (out : List DCard) (ho : out.length < 900000) (at_ begin_ n : Nat) (w : List UInt8) (hg : s.getD at_ 0 = 10) (ha : at_ < s.length) (hb : begin_ ≤ at_) (hw : (s.take at_).drop begin_ = w) :
    ammoniteref10_Cards.l3 K (n + 1) s out at_ begin_ = match lineC w with
      | none => some ([], false, ())
      | some c => cardsNext s out at_ begin_ (fun o => ammoniteref10_Cards.l3 K n s o ((at_ + 1 : Nat) : Int) ((at_ + 1 : Nat) : Int)) c := by
  have hwl : w.length ≤ s.length := by rw [← hw]; simp; omega
  have h1 : (at_ : Int) < (s.length : Int) := by omega
  have h2 : (at_ : Int) ≤ (s.length : Int) := by omega
  have h3 : (begin_ : Int) ≤ (at_ : Int) := by omega
  have h10 : (((10 : UInt8).toNat : Int) = 10) := rfl
  have hK0 : 1000 ≤ K := by omega
  rw [ammoniteref10_Cards.l3_succ]
  simp only [h1, h2, h3, Int.natCast_nonneg, decide_true, cond_true, chks_t, chks_nil, Int.toNat_natCast, hg, h10, Bool.not_true, cond_false, cutL_mid, hw]
  have hargs := fun (letter : Int) (args : List (List UInt8)) (hl : args.length < 900000) => cards_args hK (ammoniteref10_Cards.r3 K n) s (by omega) out ho at_ begin_ ha hb letter args hl args 0 K rfl (Nat.zero_le _) (by omega)
  match w, hwl with
  | [], _ => simp [lineC]
  | [a], _ =>
    simp only [ammoniteref10_Cards.j9_eq hK0, List.length_cons, List.length_nil, Nat.zero_add, show ((1 : Nat) : Int) = 1 from rfl, Int.lt_irrefl, decide_false, cond_false, show (0 : Int) < 1 by decide, decide_true, chks_t, chks_nil, Int.toNat_zero, List.getD_cons_zero, lineC]
    by_cases c1 : (a.toNat : Int) < 65
    · have : ¬ (65 ≤ a.toNat ∧ a.toNat ≤ 90) := by omega
      simp [c1, this]
    · by_cases c2 : (90 : Int) < (a.toNat : Int)
      · have : ¬ (65 ≤ a.toNat ∧ a.toNat ≤ 90) := by omega
        simp [c1, c2, this]
      · have : 65 ≤ a.toNat ∧ a.toNat ≤ 90 := by omega
        have hz := hargs (a.toNat : Int) [] (by simp)
        simp only [List.all_nil, if_true] at hz
        simp only [c1, c2, this, decide_false, cond_false, and_self, if_true]
        exact hz
  | a :: b :: r, hwl =>
    have l1 : (1 : Int) < (((a :: b :: r).length : Nat) : Int) := by simp; omega
    have l2 : ¬ ((((a :: b :: r).length : Nat) : Int) < 1) := by omega
    have l3 : (0 : Int) < (((a :: b :: r).length : Nat) : Int) := by omega
    have l4 : (2 : Int) ≤ (((a :: b :: r).length : Nat) : Int) := by omega
    have hc2 : cutL (a :: b :: r) (some (2 : Int)) none = r := by simp [cutL]
    have hrl : r.length < 300000 := by simp at hwl; omega
    have hsp := split_len 32 r
    have hnum : (splitL 32 r).length ≤ r.length + 1 := by
      rw [← hsp]
      generalize splitL 32 r = ws
      clear hsp
      induction ws with
      | nil => simp
      | cons a ws ih => simp only [List.length_cons, List.map_cons, List.sum_cons]; omega
    simp only [ammoniteref10_Cards.j9_eq hK0, l1, l2, l3, l4, decide_true, decide_false, cond_true, cond_false, chks_t, chks_nil, Int.toNat_zero, List.getD_cons_zero, show Int.toNat 1 = 1 from rfl, List.getD_cons_succ, hc2, rwords_eq hK (show r.length < 900000 by omega), Option.bind_some, lineC]
    by_cases c1 : (a.toNat : Int) < 65
    · have : ¬ (65 ≤ a.toNat ∧ a.toNat ≤ 90 ∧ b = 32 ∧ (splitL 32 r).all (fun x => decide (x ≠ [])) = true) := by omega
      simp only [c1, this, decide_true, cond_true, if_false]
    · by_cases c2 : (90 : Int) < (a.toNat : Int)
      · have : ¬ (65 ≤ a.toNat ∧ a.toNat ≤ 90 ∧ b = 32 ∧ (splitL 32 r).all (fun x => decide (x ≠ [])) = true) := by omega
        simp only [c1, c2, this, decide_true, decide_false, cond_true, cond_false, if_false]
      · by_cases c3 : b = 32
        · subst c3
          have h32 : (((32 : UInt8).toNat : Int) = 32) := rfl
          have hz := hargs (a.toNat : Int) (splitL 32 r) (by omega)
          have hz0 : ((0 : Nat) : Int) = 0 := rfl
          rw [hz0] at hz
          simp only [c1, c2, h32, decide_true, decide_false, cond_true, cond_false, Bool.not_true, hz]
          have a1 : 65 ≤ a.toNat := by omega
          have a2 : a.toNat ≤ 90 := by omega
          simp only [a1, a2, true_and]
          by_cases c4 : (splitL 32 r).all (fun x => decide (x ≠ [])) = true
          · simp only [c4, if_true]
            rfl
          · simp only [c4, Bool.false_eq_true, if_false]
        · have h32 : ¬ ((b.toNat : Int) = 32) := fun e => c3 ((byte_eq b 32 (by decide)).1 e)
          have : ¬ (65 ≤ a.toNat ∧ a.toNat ≤ 90 ∧ b = 32 ∧ (splitL 32 r).all (fun x => decide (x ≠ [])) = true) := fun h => c3 h.2.2.1
          simp only [c1, c2, h32, this, decide_false, cond_false, Bool.not_false, cond_true, if_false]
/-- On the way to a line's end. -/
theorem cards_scan (s : List UInt8) (hs : s.length < 300000) (out : List DCard) (begin_ : Nat) : ∀ (w r : List UInt8) (at_ n : Nat), s.drop at_ = w ++ r → ¬ (10 : UInt8) ∈ w → w.length ≤ n →
    ammoniteref10_Cards.l3 K n s out at_ begin_ = ammoniteref10_Cards.l3 K (n - w.length) s out ((at_ + w.length : Nat) : Int) begin_ := by
  have _hK := hK
  intro w
  induction w with
  | nil => intro r at_ n _ _ _; rfl
  | cons x w ih =>
    intro r at_ n hd hw hn
    simp only [List.length_cons] at hn
    obtain ⟨n, rfl⟩ : ∃ m, n = m + 1 := ⟨n - 1, by omega⟩
    rw [List.cons_append] at hd
    obtain ⟨hg, hlt, hd'⟩ := getD_drop (d := (0 : UInt8)) hd
    simp only [List.mem_cons, not_or] at hw
    have h1 : (at_ : Int) < (s.length : Int) := by omega
    have hx : ¬ ((x.toNat : Int) = 10) := fun e => hw.1 ((byte_eq x 10 (by decide)).1 e).symm
    rw [ammoniteref10_Cards.l3_succ]
    simp only [h1, Int.natCast_nonneg, decide_true, cond_true, chks_t, chks_nil, Int.toNat_natCast, hg, hx, decide_false, Bool.not_false, wS (show at_ < 4611686018427387904 by omega)]
    rw [ih r (at_ + 1) n hd' hw.2 (by omega)]
    simp only [List.length_cons]
    congr 1
    · omega
    · omega
theorem cards_loop (s : List UInt8) (hs : s.length < 300000) : ∀ (N : Nat) (rest : List UInt8), rest.length ≤ N → ∀ (n : Nat) (out : List DCard), rest.length < n → s = bodyS out ++ rest → okRow none out = true →
    ∃ l ok, ammoniteref10_Cards.l3 K n s out (bodyS out).length (bodyS out).length = some (l, ok, ()) ∧ (ok = true → rightB l = true ∧ printS l = s) ∧ (ok = false → l = []) ∧
      (∀ m, rightB (out ++ m) = true → rest = bodyS m ++ [90, 32] ++ sumS (bodyS (out ++ m)) ++ [10] → ok = true ∧ l = out ++ m) := by
  intro N
  induction N with
  | zero =>
    intro rest hN n out hn hse hok
    have : rest = [] := List.eq_nil_of_length_eq_zero (by omega)
    subst this
    obtain ⟨n, rfl⟩ : ∃ m, n = m + 1 := ⟨n - 1, by omega⟩
    refine ⟨[], false, ?_, (fun h => by cases h), fun _ => rfl, fun m _ h => by simp at h⟩
    rw [ammoniteref10_Cards.l3_succ]
    simp [hse]
  | succ N ih =>
    intro rest hN n out hn hse hok
    have hdrop : s.drop (bodyS out).length = rest := by rw [hse]; simp
    have hsl : s.length = (bodyS out).length + rest.length := by rw [hse]; simp
    have hol := body_len out
    by_cases hc : (10 : UInt8) ∈ rest
    · obtain ⟨w, b, rfl, hw⟩ := mem_part hc
      simp only [List.length_append, List.length_cons] at hN hn hsl
      have hat : (bodyS out).length + w.length < s.length := by omega
      have hg : s.getD ((bodyS out).length + w.length) 0 = 10 := by
        have : s.drop ((bodyS out).length + w.length) = 10 :: b := by rw [← List.drop_drop, hdrop]; simp
        exact (getD_drop (d := (0 : UInt8)) this).1
      have hcut : (s.take ((bodyS out).length + w.length)).drop (bodyS out).length = w := by
        rw [List.drop_take, hdrop, Nat.add_sub_cancel_left]
        simp
      have htake : s.take (bodyS out).length = bodyS out := by rw [hse]; simp
      rw [cards_scan hK s hs out (bodyS out).length w (10 :: b) (bodyS out).length n hdrop hw (by omega)]
      obtain ⟨n', hn'⟩ : ∃ m, n - w.length = m + 1 := ⟨n - w.length - 1, by omega⟩
      rw [hn', cards_line hK s hs out (by omega) ((bodyS out).length + w.length) (bodyS out).length n' w hg hat (Nat.le_add_right _ _) hcut]
      -- the line of what could stand there
      have hfirst : ∀ m, rightB (out ++ m) = true → w ++ 10 :: b = bodyS m ++ [90, 32] ++ sumS (bodyS (out ++ m)) ++ [10] →
          (m = [] ∧ w = [90, 32] ++ sumS (bodyS out) ∧ b = []) ∨ ∃ c m', m = c :: m' ∧ OkC c ∧ w = lineW c ∧ b = bodyS m' ++ [90, 32] ++ sumS (bodyS (out ++ m)) ++ [10] := by
        intro m hr hm
        cases m with
        | nil =>
          refine .inl ⟨rfl, ?_⟩
          simp only [bodyS, List.map_nil, List.flatten_nil, List.nil_append, List.append_nil] at hm
          have hfree : ¬ (10 : UInt8) ∈ ([90, 32] ++ sumS (bodyS out)) := by
            simp only [List.mem_append, not_or]
            exact ⟨by decide, (sum_free _).2⟩
          have h1 := cutB_yes (b := b) hw
          have h2 := cutB_yes (b := []) hfree
          have hm' : w ++ 10 :: b = ([90, 32] ++ sumS (bodyS out)) ++ 10 :: [] := hm
          rw [hm', h2] at h1
          injection h1 with h3 h4
          injection h4 with h4 _
          exact ⟨h3.symm, h4.symm⟩
        | cons c m' =>
          refine .inr ⟨c, m', rfl, ?_⟩
          unfold rightB at hr
          simp only [Bool.and_eq_true] at hr
          have hokc := okRow_mem hr.1 c (List.mem_append_right _ List.mem_cons_self)
          rw [body_cons, cardLine_eq] at hm
          have hm' : w ++ 10 :: b = lineW c ++ 10 :: (bodyS m' ++ [90, 32] ++ sumS (bodyS (out ++ c :: m')) ++ [10]) := by rw [hm]; simp
          have h1 := cutB_yes (b := b) hw
          have h2 := cutB_yes (b := bodyS m' ++ [90, 32] ++ sumS (bodyS (out ++ c :: m')) ++ [10]) (lineW_free hokc)
          rw [hm', h2] at h1
          injection h1 with h3 h4
          injection h4 with h4 _
          exact ⟨hokc, h3.symm, h4.symm⟩
      cases hlc : lineC w with
      | none =>
        refine ⟨[], false, rfl, (fun h => by cases h), fun _ => rfl, fun m hr hm => ?_⟩
        exfalso
        rcases hfirst m hr hm with ⟨_, h1, _⟩ | ⟨c, m', _, h1, h2, _⟩
        · rw [h1, lineC_seal] at hlc; cases hlc
        · rw [h2, lineC_ok h1] at hlc; cases hlc
      | some c =>
        dsimp only
        obtain ⟨hl1, hl2, hl3, hl4⟩ := lineC_spec hw hlc
        unfold cardsNext
        by_cases h90 : c.1 = 90
        · rw [if_pos h90]
          have hz : ∀ m, rightB (out ++ m) = true → w ++ 10 :: b = bodyS m ++ [90, 32] ++ sumS (bodyS (out ++ m)) ++ [10] → m = [] ∧ b = [] ∧ c.2.1 = [sumS (bodyS out)] := by
            intro m hr hm
            rcases hfirst m hr hm with ⟨h0, h1, h2⟩ | ⟨c', m', _, h1, h2, _⟩
            · rw [h1, lineC_seal] at hlc; cases hlc; exact ⟨h0, h2, rfl⟩
            · rw [h2, lineC_ok h1] at hlc; cases hlc; have := h1.hi; omega
          by_cases hfin : (bodyS out).length + w.length + 1 = s.length ∧ c.2.1 = [sumS (s.take (bodyS out).length)] ∧ out ≠ []
          · rw [if_pos hfin]
            obtain ⟨f1, f2, f3⟩ := hfin
            have hb0 : b = [] := List.eq_nil_of_length_eq_zero (by omega)
            have hro : rightB out = true := by
              unfold rightB
              rw [hok]
              cases out with
              | nil => exact absurd rfl f3
              | cons _ _ => simp
            refine ⟨out, true, rfl, fun _ => ⟨hro, ?_⟩, (fun h => by cases h), fun m hr hm => ⟨rfl, by rw [(hz m hr hm).1]; simp⟩⟩
            unfold printS sealS
            rw [hro, if_pos rfl, hse, hb0, ← hl1]
            unfold lineW
            rw [f2, h90, htake]
            have : Lib.join [[UInt8.ofNat (90 : Int).toNat], sumS (bodyS out)] [32] = [90, 32] ++ sumS (bodyS out) := by rw [Lib.join_cons]; simp [Lib.joinTail]
            rw [this]
            simp
          · rw [if_neg hfin]
            refine ⟨[], false, rfl, (fun h => by cases h), fun _ => rfl, fun m hr hm => ?_⟩
            exfalso
            obtain ⟨z1, z2, z3⟩ := hz m hr hm
            apply hfin
            refine ⟨by rw [z2] at hsl; simp at hsl; omega, by rw [htake]; exact z3, ?_⟩
            rintro rfl
            rw [z1] at hr
            simp [rightB] at hr
        · rw [if_neg h90]
          have hokc : OkC c := ⟨hl2, by omega, hl4⟩
          have hne : ∀ m, rightB (out ++ m) = true → w ++ 10 :: b = bodyS m ++ [90, 32] ++ sumS (bodyS (out ++ m)) ++ [10] → ∃ m', m = c :: m' ∧ b = bodyS m' ++ [90, 32] ++ sumS (bodyS (out ++ m)) ++ [10] := by
            intro m hr hm
            rcases hfirst m hr hm with ⟨h0, h1, h2⟩ | ⟨c', m', h0, h1, h2, h3⟩
            · rw [h1, lineC_seal] at hlc; cases hlc; exact absurd rfl h90
            · rw [h2, lineC_ok h1] at hlc; cases hlc; exact ⟨m', h0, h3⟩
          by_cases hprev : okPrev (match out.getLast? with | some x => some x.1 | none => none) c.1 = true
          · rw [if_pos hprev]
            have hbc : (bodyS (out ++ [c])).length = (bodyS out).length + w.length + 1 := by
              rw [body_app, List.length_append]
              have : bodyS [c] = w ++ [10] := by simp [bodyS, cardLine_eq, hl1]
              rw [this]
              simp
              omega
            have hse' : s = bodyS (out ++ [c]) ++ b := by
              rw [body_app]
              have : bodyS [c] = w ++ [10] := by simp [bodyS, cardLine_eq, hl1]
              rw [this, hse]
              simp
            have hok' : okRow none (out ++ [c]) = true := by
              refine okRow_mk hok ?_
              unfold okRow
              simp only [Bool.and_eq_true, decide_eq_true_eq, List.all_eq_true]
              exact ⟨⟨hokc.lo, hokc.hi⟩, hprev, hokc.arg, rfl⟩
            obtain ⟨l, ok, r1, r2, r3, r4⟩ := ih b (by omega) n' (out ++ [c]) (by omega) hse' hok'
            rw [hbc] at r1
            refine ⟨l, ok, r1, r2, r3, fun m hr hm => ?_⟩
            obtain ⟨m', rfl, hb'⟩ := hne m hr hm
            have := r4 m' (by simpa using hr) (by simpa using hb')
            simpa using this
          · rw [if_neg hprev]
            refine ⟨[], false, rfl, (fun h => by cases h), fun _ => rfl, fun m hr hm => ?_⟩
            exfalso
            obtain ⟨m', rfl, hb'⟩ := hne m hr hm
            unfold rightB at hr
            simp only [Bool.and_eq_true] at hr
            have h5 := (okRow_app hr.1).2
            unfold okRow at h5
            simp only [Bool.and_eq_true] at h5
            exact hprev h5.2.1
    · refine ⟨[], false, ?_, (fun h => by cases h), fun _ => rfl, fun m _ h => ?_⟩
      · rw [cards_scan hK s hs out (bodyS out).length rest [] (bodyS out).length n (by rw [hdrop]; simp) hc (by omega)]
        obtain ⟨n', hn'⟩ : ∃ m, n - rest.length = m + 1 := ⟨n - rest.length - 1, by omega⟩
        rw [hn', ammoniteref10_Cards.l3_succ]
        have : ¬ ((((bodyS out).length + rest.length : Nat) : Int) < (s.length : Int)) := by omega
        simp only [this, decide_false, cond_false]
      · exfalso
        apply hc
        rw [h]
        simp
theorem cards_eq {s : List UInt8} (hs : s.length < 300000) : ∃ l ok, ammoniteref10_Cards.f K (s, ()) = some (l, ok, ()) ∧ (ok = true → rightB l = true ∧ printS l = s) ∧ (ok = false → l = []) ∧ (∀ m, rightB m = true → printS m = s → ok = true ∧ l = m) := by
  obtain ⟨l, ok, h1, h2, h3, h4⟩ := cards_loop hK s hs s.length s (Nat.le_refl _) K [] (by omega) rfl rfl
  refine ⟨l, ok, by rw [ammoniteref10_Cards.eq]; exact h1, h2, h3, fun m hr hp => ?_⟩
  refine h4 m hr ?_
  unfold printS at hp
  rw [hr] at hp
  exact hp.symm
end
end Go.Proofs.Ytgmjbnglenmlpaa.Ab
