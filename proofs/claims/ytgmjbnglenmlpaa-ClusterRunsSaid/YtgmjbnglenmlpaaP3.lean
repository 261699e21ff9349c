/- card.Read; the reference's words, Cards, Print: what they compute. -/
import Derived.Test.YtgmjbnglenmlpaaP2
set_option linter.unusedVariables false
set_option linter.unusedSimpArgs false
namespace Go.Proofs.Ytgmjbnglenmlpaa.Ab
open Go Go.RowKit Go.Proofs.Ytgmjbnglenmlpaa.Given
/-- A card out of a line's words. -/
def wordsCard : Int → List (List UInt8) → List (List UInt8) → Option DCard
  | b, args, [] => some (b, args, ())
  | b, args, w :: ws => if 0 < b then wordsCard b (args ++ [w]) ws else if w.length = 1 then wordsCard ((w.getD 0 0).toNat : Int) args ws else none
theorem hexB_ne {c : UInt8} (h : hexB c = true) : c ≠ 32 ∧ c ≠ 10 := by
  constructor <;> (rintro rfl; revert h; decide)
theorem sum_free (s : List UInt8) : ¬ (32 : UInt8) ∈ sumS s ∧ ¬ (10 : UInt8) ∈ sumS s :=
  ⟨fun h => (hexB_ne (sumS_hex s _ h)).1 rfl, fun h => (hexB_ne (sumS_hex s _ h)).2 rfl⟩
/-- What is known of a card that may be. -/
structure OkC (c : DCard) : Prop where
  lo : 65 ≤ c.1
  hi : c.1 ≤ 89
  arg : ∀ a ∈ c.2.1, okArg a = true
theorem okArg_iff {a : List UInt8} : okArg a = true ↔ a ≠ [] ∧ ¬ (32 : UInt8) ∈ a ∧ ¬ (10 : UInt8) ∈ a := by
  unfold okArg
  simp [Bool.and_eq_true]
theorem okRow_mem : ∀ {l : List DCard} {p : Option Int}, okRow p l = true → ∀ c ∈ l, OkC c := by
  intro l
  induction l with
  | nil => intro p _ c hc; cases hc
  | cons x r ih =>
    intro p h c hc
    unfold okRow at h
    simp only [Bool.and_eq_true, decide_eq_true_eq, List.all_eq_true] at h
    cases hc with
    | head => exact ⟨h.1.1, h.1.2, h.2.2.1⟩
    | tail _ hc => exact ih h.2.2.2 c hc
theorem okRow_app : ∀ {l m : List DCard} {p : Option Int}, okRow p (l ++ m) = true → okRow p l = true ∧ okRow (match l.getLast? with | some c => some c.1 | none => p) m = true := by
  intro l
  induction l with
  | nil => intro m p h; exact ⟨rfl, h⟩
  | cons x r ih =>
    intro m p h
    rw [List.cons_append] at h
    unfold okRow at h
    simp only [Bool.and_eq_true] at h
    obtain ⟨h1, h2, h3, h4⟩ := h
    obtain ⟨h5, h6⟩ := ih h4
    refine ⟨by unfold okRow; simp only [Bool.and_eq_true]; exact ⟨h1, h2, h3, h5⟩, ?_⟩
    cases r with
    | nil => exact h6
    | cons y r => rw [List.getLast?_cons_cons]; cases hl : (y :: r).getLast? with
      | none => simp at hl
      | some z => rw [hl] at h6; exact h6
theorem okRow_mk : ∀ {l m : List DCard} {p : Option Int}, okRow p l = true → okRow (match l.getLast? with | some c => some c.1 | none => p) m = true → okRow p (l ++ m) = true := by
  intro l
  induction l with
  | nil => intro m p _ h; exact h
  | cons x r ih =>
    intro m p h k
    rw [List.cons_append]
    unfold okRow at h ⊢
    simp only [Bool.and_eq_true] at h ⊢
    obtain ⟨h1, h2, h3, h4⟩ := h
    refine ⟨h1, h2, h3, ih h4 ?_⟩
    cases r with
    | nil => exact k
    | cons y r => rw [List.getLast?_cons_cons] at k; cases hl : (y :: r).getLast? with
      | none => simp at hl
      | some z => rw [hl] at k; exact k
theorem letter_back {c : DCard} (h : OkC c) : ((UInt8.ofNat c.1.toNat).toNat : Int) = c.1 := by
  have := h.lo
  have := h.hi
  rw [UInt8.toNat_ofNat', Nat.mod_eq_of_lt (by omega)]
  omega
theorem letter_free {c : DCard} (h : OkC c) : UInt8.ofNat c.1.toNat ≠ 32 ∧ UInt8.ofNat c.1.toNat ≠ 10 := by
  have := h.lo
  have hb := letter_back h
  constructor <;> (intro e; rw [e] at hb; simp at hb; omega)
/-- The line of a card, without its end. -/
def lineW (c : DCard) : List UInt8 := Lib.join ([UInt8.ofNat c.1.toNat] :: c.2.1) [32]
theorem lineW_split {c : DCard} (h : OkC c) : splitL 32 (lineW c) = [UInt8.ofNat c.1.toNat] :: c.2.1 := by
  unfold lineW
  refine splitL_join (by simp) fun w hw => ?_
  cases hw with
  | head => simp; exact fun e => (letter_free h).1 e.symm
  | tail _ hw => exact (okArg_iff.1 (h.arg w hw)).2.1
theorem join_mem {sep : UInt8} : ∀ {l : List (List UInt8)} {x : UInt8}, x ∈ Lib.join l [sep] → x = sep ∨ ∃ w ∈ l, x ∈ w := by
  intro l
  induction l with
  | nil => intro x h; simp [Lib.join] at h
  | cons a l ih =>
    intro x h
    cases l with
    | nil => rw [Lib.join_one] at h; exact .inr ⟨a, List.mem_cons_self, h⟩
    | cons b l =>
      have : Lib.join (a :: b :: l) [sep] = a ++ sep :: Lib.join (b :: l) [sep] := by rw [Lib.join_cons, Lib.join_cons]; simp [Lib.joinTail]
      rw [this, List.mem_append] at h
      rcases h with h | h
      · exact .inr ⟨a, List.mem_cons_self, h⟩
      · cases h with
        | head => exact .inl rfl
        | tail _ h =>
          rcases ih h with h | ⟨w, hw, hx⟩
          · exact .inl h
          · exact .inr ⟨w, List.mem_cons_of_mem _ hw, hx⟩
theorem lineW_free {c : DCard} (h : OkC c) : ¬ (10 : UInt8) ∈ lineW c := by
  intro hm
  rcases join_mem hm with h1 | ⟨w, hw, hx⟩
  · cases h1
  · cases hw with
    | head => simp at hx; exact (letter_free h).2 hx.symm
    | tail _ hw => exact (okArg_iff.1 (h.arg w hw)).2.2 hx
theorem cardLine_eq (c : DCard) : cardLine c = lineW c ++ [10] := rfl
theorem wordsCard_args : ∀ (ws : List (List UInt8)) (b : Int) (args : List (List UInt8)), 0 < b → wordsCard b args ws = some (b, args ++ ws, ()) := by
  intro ws
  induction ws with
  | nil => intro b args _; simp [wordsCard]
  | cons w ws ih => intro b args hb; unfold wordsCard; rw [if_pos hb, ih b _ hb]; simp
theorem wordsCard_ok {c : DCard} (h : OkC c) : wordsCard 0 [] (splitL 32 (lineW c)) = some c := by
  rw [lineW_split h]
  unfold wordsCard
  have h1 : List.length [UInt8.ofNat c.1.toNat] = 1 := rfl
  rw [if_neg (by omega), if_pos h1]
  simp only [List.getD_cons_zero]
  rw [letter_back h, wordsCard_args _ _ _ (by have := h.lo; omega)]
  rfl
/-- How long the card of a line's words is. -/
theorem wordsCard_len : ∀ (ws : List (List UInt8)) (b : Int) (args : List (List UInt8)) (c : DCard), wordsCard b args ws = some c → (cardLine c).length ≤ (cardLine (b, args, ())).length + (ws.map fun w => w.length + 1).sum := by
  have one : ∀ b : Int, ([UInt8.ofNat b.toNat] : List UInt8).length = 1 := fun _ => rfl
  have key : ∀ (b b' : Int) (args : List (List UInt8)), (cardLine (b, args, ())).length = (cardLine (b', args, ())).length := by
    intro b b' args
    unfold cardLine
    rw [Lib.join_cons, Lib.join_cons]
    simp
  have snoc : ∀ (b : Int) (args : List (List UInt8)) (w : List UInt8), (cardLine (b, args ++ [w], ())).length = (cardLine (b, args, ())).length + (w.length + 1) := by
    intro b args w
    unfold cardLine
    rw [Lib.join_cons, Lib.join_cons]
    simp [Lib.joinTail]
    omega
  intro ws
  induction ws with
  | nil => intro b args c h; unfold wordsCard at h; cases h; simp
  | cons w ws ih =>
    intro b args c h
    unfold wordsCard at h
    simp only [List.map_cons, List.sum_cons]
    split at h
    · have := ih _ _ _ h; rw [snoc] at this; omega
    · split at h
      · have := ih _ _ _ h; rw [key ((w.getD 0 0).toNat : Int) b args] at this; omega
      · cases h
theorem split_len (c : UInt8) : ∀ (s : List UInt8), ((splitL c s).map fun w => w.length + 1).sum = s.length + 1 := by
  intro s
  induction s with
  | nil => rfl
  | cons x s ih =>
    unfold splitL
    split
    · simp only [List.map_cons, List.sum_cons, List.length_nil, List.length_cons, ih]; omega
    · cases hs : splitL c s with
      | nil => exact absurd hs (splitL_ne c s)
      | cons u r =>
        rw [hs] at ih
        simp only [List.map_cons, List.sum_cons, List.length_cons] at ih ⊢
        omega
theorem line_len (w : List UInt8) (c : DCard) (h : wordsCard 0 [] (splitL 32 w) = some c) : (cardLine c).length ≤ w.length + 3 := by
  have := wordsCard_len _ _ _ _ h
  rw [split_len] at this
  have h2 : (cardLine (0, [], ())).length = 2 := rfl
  omega
/-- The end of card.Read. -/
noncomputable def readEnd (s : List UInt8) : Option (List DCard) → Option ((List DCard) × Bool × Unit)
  | none => some ([], false, ())
  | some o => if printS o = s then some (o, true, ()) else some ([], false, ())
theorem read_words {K : Nat} (ρ5 : St → Option ((List DCard) × Bool × Unit)) (s : List UInt8) (t2 : List DCard) (t3 : Bool) (out : List DCard) (rest behind : List UInt8) (hr : rest ≠ []) (ho : out.length < 1000000) :
    ∀ (ws : List (List UInt8)) (b : Int) (args : List (List UInt8)), args.length + ws.length < 1000000 →
    card_Read.i10 K ρ5 (ws.map fun w => (w, ())) s t2 t3 out rest behind b args = match wordsCard b args ws with
      | some c => ρ5 (card_Read.m5 s t2 t3 (out ++ [c]) behind)
      | none => some ([], false, ()) := by
  intro ws
  induction ws with
  | nil =>
    intro b args hl
    rw [List.map_nil, card_Read.i10_nil, growOk_t (by omega) (by simp; omega)]
    rfl
  | cons w ws ih =>
    intro b args hl
    simp only [List.length_cons] at hl
    rw [List.map_cons, card_Read.i10_cons]
    unfold wordsCard
    by_cases hb : 0 < b
    · simp only [hb, decide_true, cond_true, if_true]
      rw [growOk_t (by omega) (by simp; omega), chks_t, chks_nil]
      exact ih b (args ++ [w]) (by simp; omega)
    · simp only [hb, decide_false, cond_false, if_false]
      by_cases hw : w.length = 1
      · have h1 : ((w.length : Int) = 1) := by omega
        have h2 : (0 : Int) < (w.length : Int) := by omega
        simp only [h1, hw, decide_true, cond_true, if_true, chks_t, chks_nil, show (0 : Int) < 1 by decide]
        exact ih _ args (by omega)
      · have h1 : ¬ ((w.length : Int) = 1) := by omega
        simp only [h1, hw, decide_false, cond_false, if_false, hr, Bool.not_false, cond_true]
section
variable {K : Nat} (hK : 1000000 ≤ K)
include hK
theorem read_loop (s : List UInt8) (t2 : List DCard) (t3 : Bool) (hs : s.length < 300000) : ∀ (N : Nat) (rest : List UInt8), rest.length ≤ N → ∀ (n : Nat) (out : List DCard), rest.length < n → (bodyS out).length + 3 * rest.length ≤ 3 * s.length →
    ∃ r, card_Read.l5 K n s t2 t3 out rest = readEnd s r ∧ (∀ m, rest = bodyS m → (∀ c ∈ m, OkC c) → r = some (out ++ m)) := by
  intro N
  induction N with
  | zero =>
    intro rest hN n out hn hb
    have : rest = [] := List.eq_nil_of_length_eq_zero (by omega)
    subst this
    obtain ⟨n, rfl⟩ : ∃ m, n = m + 1 := ⟨n - 1, by omega⟩
    refine ⟨some out, ?_, fun m hm _ => ?_⟩
    · rw [card_Read.l5_succ]
      simp only [decide_true, Bool.not_true, cond_false]
      rw [print_eq hK (by omega), Option.bind_some]
      unfold readEnd
      by_cases hp : printS out = s <;> simp [hp]
    · have := body_len m
      rw [← hm] at this
      have : m = [] := List.eq_nil_of_length_eq_zero (by simp at this; omega)
      subst this
      simp
  | succ N ih =>
    intro rest hN n out hn hb
    by_cases hr : rest = []
    · exact ih rest (by rw [hr]; simp) n out hn hb
    · obtain ⟨n, rfl⟩ : ∃ m, n = m + 1 := ⟨n - 1, by omega⟩
      have hol := body_len out
      have e1 : (!(decide (rest = ([] : List UInt8)))) = true := by simp [hr]
      rw [card_Read.l5_succ, e1, cond_true, cutc_eq K (by omega), Option.bind_some]
      by_cases hc : (10 : UInt8) ∈ rest
      · obtain ⟨w, b, rfl, hw⟩ := mem_part hc
        rw [cutB_yes hw]
        dsimp only
        simp only [List.length_append, List.length_cons] at hN hn hb
        rw [Bool.not_true, cond_false, words_eq (by omega), Option.bind_some]
        have hsl := split_len 32 w
        have hnum : (splitL 32 w).length ≤ w.length + 1 := by
          rw [← hsl]
          generalize splitL 32 w = ws
          clear hsl
          induction ws with
          | nil => simp
          | cons a ws ih => simp only [List.length_cons, List.map_cons, List.sum_cons]; omega
        rw [read_words (K := K) (card_Read.r5 K n) s t2 t3 out (w ++ 10 :: b) b hr (by omega) (splitL 32 w) 0 [] (by simp; omega)]
        cases hwc : wordsCard 0 [] (splitL 32 w) with
        | none =>
          refine ⟨none, rfl, fun m hm hok => ?_⟩
          cases m with
          | nil => simp [bodyS] at hm
          | cons c m =>
            exfalso
            rw [body_cons, cardLine_eq, List.append_assoc] at hm
            have h1 := splitL_yes (b := b) hw
            have h2 := splitL_yes (b := bodyS m) (lineW_free (hok c List.mem_cons_self))
            rw [hm] at h1
            rw [List.singleton_append] at h1
            rw [h2] at h1
            injection h1 with h3 _
            rw [← h3, wordsCard_ok (hok c List.mem_cons_self)] at hwc
            cases hwc
        | some c =>
          have hcl := line_len w c hwc
          have hbc : (bodyS (out ++ [c])).length = (bodyS out).length + (cardLine c).length := by rw [body_app]; simp [bodyS]
          obtain ⟨r, h1, h2⟩ := ih b (by omega) n (out ++ [c]) (by omega) (by omega)
          refine ⟨r, h1, fun m hm hok => ?_⟩
          cases m with
          | nil => simp [bodyS] at hm
          | cons c' m =>
            have hok' := hok c' List.mem_cons_self
            rw [body_cons, cardLine_eq, List.append_assoc, List.singleton_append] at hm
            have h3 := cutB_yes (b := b) hw
            have h4 := cutB_yes (b := bodyS m) (lineW_free hok')
            rw [hm, h4] at h3
            injection h3 with h5 h6
            injection h6 with h6 _
            rw [← h5, wordsCard_ok hok'] at hwc
            cases hwc
            rw [h2 m h6.symm (fun c hc => hok c (List.mem_cons_of_mem _ hc))]
            simp
      · rw [cutB_no hc]
        refine ⟨none, ?_, fun m hm hok => ?_⟩
        · simp only [Bool.not_false, cond_true, e1]
          rfl
        · cases m with
          | nil => exact absurd hm hr
          | cons c m => exfalso; apply hc; rw [hm, body_cons, cardLine_eq]; simp
theorem read_eq {s : List UInt8} (hs : s.length < 300000) : ∃ l ok, card_Read.f K (s, ()) = some (l, ok, ()) ∧ (ok = true → rightB l = true ∧ printS l = s) ∧ (ok = false → l = []) ∧ (∀ m, rightB m = true → printS m = s → ok = true ∧ l = m) := by
  have fin : ∀ m, rightB m = true → printS m = s → s = sealS (bodyS m) ∧ s.length = (bodyS m).length + 43 := by
    intro m h1 h2
    unfold printS at h2
    rw [h1] at h2
    have h2 : sealS (bodyS m) = s := h2
    refine ⟨h2.symm, ?_⟩
    rw [← h2]
    unfold sealS
    simp [sumS_len]
  rw [card_Read.eq]
  by_cases h0 : (s.length : Int) < 43
  · refine ⟨[], false, by simp [h0], (fun h => by cases h), fun _ => rfl, fun m h1 h2 => ?_⟩
    have := (fin m h1 h2).2
    omega
  · obtain ⟨j, hj⟩ : ∃ j : Nat, s.length = j + 43 := ⟨s.length - 43, by omega⟩
    have e1 : IntKind.wrap .i64 ((s.length : Int) - 43) = (j : Int) := by rw [w64 (by omega) (by omega)]; omega
    have e2 : (j : Int) ≤ (s.length : Int) := by omega
    simp only [h0, decide_false, cond_false, e1, e2, Int.natCast_nonneg, decide_true, chks_t, chks_nil, cutL_to]
    rw [seal_eq hK (by simp; omega), Option.bind_some]
    by_cases hse : sealS (s.take j) = s
    · simp only [hse, decide_true, Bool.not_true, cond_false]
      obtain ⟨r, h1, h2⟩ := read_loop hK s [] false hs (s.take j).length (s.take j) (Nat.le_refl _) K [] (by simp; omega) (by simp [bodyS]; omega)
      rw [h1]
      have comp : ∀ m, rightB m = true → printS m = s → r = some m := by
        intro m h3 h4
        obtain ⟨f1, f2⟩ := fin m h3 h4
        have ht : s.take j = bodyS m := by
          have : (bodyS m).length = j := by omega
          rw [f1]
          unfold sealS
          rw [← this]
          simp
        unfold rightB at h3
        simp only [Bool.and_eq_true] at h3
        have := h2 m ht (okRow_mem h3.1)
        simpa using this
      cases r with
      | none =>
        refine ⟨[], false, rfl, (fun h => by cases h), fun _ => rfl, fun m h3 h4 => ?_⟩
        have := comp m h3 h4
        cases this
      | some o =>
        unfold readEnd
        dsimp only
        by_cases hp : printS o = s
        · rw [if_pos hp]
          refine ⟨o, true, rfl, fun _ => ⟨?_, hp⟩, (fun h => by cases h), fun m h3 h4 => ⟨rfl, ?_⟩⟩
          · cases hro : rightB o with
            | true => rfl
            | false =>
              unfold printS at hp
              rw [hro] at hp
              have : s = [] := hp.symm
              rw [this] at hj
              simp at hj
          · have := comp m h3 h4
            injection this
        · rw [if_neg hp]
          refine ⟨[], false, rfl, (fun h => by cases h), fun _ => rfl, fun m h3 h4 => ?_⟩
          have := comp m h3 h4
          injection this with this
          subst this
          exact absurd h4 hp
    · simp only [hse, decide_false, Bool.not_false, cond_true]
      refine ⟨[], false, rfl, (fun h => by cases h), fun _ => rfl, fun m h1 h2 => ?_⟩
      exfalso
      obtain ⟨f1, f2⟩ := fin m h1 h2
      apply hse
      have ht : s.take j = bodyS m := by
        have : (bodyS m).length = j := by omega
        rw [f1]
        unfold sealS
        rw [← this]
        simp
      rw [ht]
      exact f1.symm
end
end Go.Proofs.Ytgmjbnglenmlpaa.Ab
