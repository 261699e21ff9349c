/- Chapter 11's cards out of what is given; CardOnly. -/
import Derived.Test.YtlecpcofgnincaaP5
import Derived.Test.YtlecpcofgnincaaAbD
set_option linter.unusedVariables false
set_option linter.unusedSimpArgs false
namespace Go.Proofs.Ytlecpcofgnincaa.Ab
open Go Go.RowKit Go.Proofs.Ytlecpcofgnincaa.Given
abbrev dCard : DCard := (0, [], ())
/-- What is known of a row of cards that was made. -/
structure Szd (raw : Bool) (m : Nat) (x : List DCard) : Prop where
  len : x.length ≤ m
  args : ∀ c ∈ x, c.2.1.length ≤ 3
  arg : ∀ c ∈ x, ∀ a ∈ c.2.1, a.length ≤ 19
  lo : ∀ c ∈ x, 0 ≤ c.1
  hi : ∀ c ∈ x, c.1 < 256
  row : raw = false → okRow none x = true
theorem tail_le (m : Nat) : ∀ (l : List (List UInt8)), (∀ a ∈ l, a.length ≤ m) → (Lib.joinTail [32] l).length ≤ l.length * (m + 1) := by
  intro l
  induction l with
  | nil => intro _; simp [Lib.joinTail]
  | cons a l ih =>
    intro h
    have h1 := h a List.mem_cons_self
    have h2 := ih (fun b hb => h b (List.mem_cons_of_mem _ hb))
    simp only [Lib.joinTail, List.map_cons, List.flatten_cons, List.length_append, List.length_cons, List.length_nil] at h2 ⊢
    rw [Nat.add_mul]
    omega
theorem line_le {c : DCard} {k m : Nat} (h1 : c.2.1.length ≤ k) (h2 : ∀ a ∈ c.2.1, a.length ≤ m) : (cardLine c).length ≤ k * (m + 1) + 2 := by
  have h := tail_le m c.2.1 h2
  have h3 : c.2.1.length * (m + 1) ≤ k * (m + 1) := Nat.mul_le_mul_right _ h1
  unfold cardLine
  rw [Lib.join_cons]
  simp only [List.length_append, List.length_cons, List.length_nil]
  omega
theorem body_le (m : Nat) : ∀ (l : List DCard), (∀ c ∈ l, (cardLine c).length ≤ m) → (bodyS l).length ≤ l.length * m := by
  intro l
  induction l with
  | nil => intro _; simp [bodyS]
  | cons c l ih =>
    intro h
    have h1 := h c List.mem_cons_self
    have h2 := ih (fun b hb => h b (List.mem_cons_of_mem _ hb))
    rw [body_cons, List.length_append, List.length_cons, Nat.add_mul]
    omega
theorem Szd.body {raw : Bool} {m : Nat} {x : List DCard} (h : Szd raw m x) : (bodyS x).length ≤ m * 62 := by
  have h1 := body_le 62 x (fun c hc => line_le (k := 3) (m := 19) (h.args c hc) (h.arg c hc))
  exact Nat.le_trans h1 (Nat.mul_le_mul_right _ h.len)
/-- A card is put in where it belongs. -/
theorem okRow_ins {out : List DCard} {c : DCard} {p : Nat} (h : okRow none out = true) (hc : OkC c) (hp : p ≤ out.length) (h1 : p = 0 ∨ (out.getD (p - 1) dCard).1 ≤ c.1) (h2 : p = out.length ∨ c.1 < (out.getD p dCard).1) : okRow none (out.take p ++ [c] ++ out.drop p) = true := by
  have hsp := h
  rw [← List.take_append_drop p out] at hsp
  obtain ⟨a1, a2⟩ := okRow_app hsp
  rw [List.append_assoc]
  refine okRow_mk a1 ?_
  rw [List.singleton_append, okRow]
  simp only [Bool.and_eq_true, decide_eq_true_eq, List.all_eq_true]
  refine ⟨⟨hc.lo, hc.hi⟩, ?_, hc.arg, ?_⟩
  · rcases h1 with rfl | h1
    · simp [okPrev]
    · by_cases hp0 : p = 0
      · subst hp0; simp [okPrev]
      · have hlt : p - 1 < out.length := by omega
        have hlast : (out.take p).getLast? = some (out.getD (p - 1) dCard) := by
          rw [List.getLast?_eq_getElem?, List.length_take, Nat.min_eq_left hp, List.getElem?_take_of_lt (by omega), List.getElem?_eq_getElem hlt]
          simp [hlt]
        rw [hlast]
        exact decide_eq_true h1
  · rcases h2 with rfl | h2
    · rw [List.drop_length]; rfl
    · by_cases hpl : p = out.length
      · subst hpl; rw [List.drop_length]; rfl
      · have hlt : p < out.length := by omega
        have hd := List.drop_eq_getElem_cons hlt
        have hg : out.getD p dCard = out[p] := by simp [hlt]
        rw [hd, okRow] at a2
        rw [hd, okRow]
        simp only [Bool.and_eq_true] at a2 ⊢
        refine ⟨a2.1, ?_, a2.2.2⟩
        rw [hg] at h2
        simp only [okPrev, decide_eq_true_eq]
        omega
theorem ins_mem {α : Type} {out : List α} {c x : α} {p : Nat} (h : x ∈ out.take p ++ [c] ++ out.drop p) : x ∈ out ∨ x = c := by
  simp only [List.mem_append, List.mem_singleton] at h
  rcases h with (h | h) | h
  · exact .inl (List.mem_of_mem_take h)
  · exact .inr h
  · exact .inl (List.mem_of_mem_drop h)
theorem ins_len {α : Type} (out : List α) (c : α) (p : Nat) : (out.take p ++ [c] ++ out.drop p).length = out.length + 1 := by
  simp
  omega
section
variable {K : Nat} (hK : 1000000 ≤ K)
include hK
theorem gen_put (ρ3 : St → Option (List DCard)) (l0 : List DCard) (raw : Bool) (out : List DCard) (ho : out.length < 1000) (i : Int) (b0 : Int) (b1 : List (List UInt8)) (p : Nat) (hp : p ≤ out.length) :
    ammonitelaw11_cards.j18 K ρ3 l0 raw out i p b0 b1 = ρ3 (ammonitelaw11_cards.m3 l0 raw (out.take p ++ [(b0, b1, ())] ++ out.drop p) (IntKind.wrap .i64 (i + 1))) := by
  have h1 : (p : Int) ≤ (out.length : Int) := by omega
  rw [ammonitelaw11_cards.j18_eq (by omega)]
  simp only [h1, Int.natCast_nonneg, decide_true, chks_t, chks_nil, cutL_to, cutL_from, List.nil_append]
  rw [growOk_t (by omega) (by simp; omega), growOk_t (by omega) (by simp; omega), growOk_t (by omega) (by simp; omega)]
  rfl
theorem gen_at (ρ3 : St → Option (List DCard)) (l0 : List DCard) (raw : Bool) (out : List DCard) (ho : out.length < 1000) (i : Int) (b0 : Int) (b1 : List (List UInt8)) : ∀ (p n : Nat), p ≤ out.length → p < n → (p = out.length ∨ b0 < (out.getD p dCard).1) →
    ∃ q, q ≤ out.length ∧ ammonitelaw11_cards.l16 K ρ3 n l0 raw out i p b0 b1 = ρ3 (ammonitelaw11_cards.m3 l0 raw (out.take q ++ [(b0, b1, ())] ++ out.drop q) (IntKind.wrap .i64 (i + 1))) ∧
      (raw = false → (q = 0 ∨ (out.getD (q - 1) dCard).1 ≤ b0) ∧ (q = out.length ∨ b0 < (out.getD q dCard).1)) := by
  intro p
  induction p with
  | zero =>
    intro n hp hn hb
    obtain ⟨n, rfl⟩ : ∃ m, n = m + 1 := ⟨n - 1, by omega⟩
    refine ⟨0, hp, ?_, fun _ => ⟨.inl rfl, hb⟩⟩
    have := gen_put hK ρ3 l0 raw out ho i b0 b1 0 hp
    rw [ammonitelaw11_cards.l16_succ]
    have hz : ((0 : Nat) : Int) = 0 := rfl
    rw [hz] at this ⊢
    cases raw <;> simp [this]
  | succ p ih =>
    intro n hp hn hb
    obtain ⟨n, rfl⟩ : ∃ m, n = m + 1 := ⟨n - 1, by omega⟩
    have hput := gen_put hK ρ3 l0 raw out ho i b0 b1 (p + 1) hp
    rw [ammonitelaw11_cards.l16_succ]
    cases raw with
    | true => exact ⟨p + 1, hp, by simpa using hput, fun h => by cases h⟩
    | false =>
      have h1 : (0 : Int) < ((p + 1 : Nat) : Int) := by omega
      have h2 : (p : Int) < (out.length : Int) := by omega
      have hg : out.getD p (DTy.dflt (.prod (.int .u8) (.prod (.slice .str) .unit))) = out.getD p dCard := rfl
      simp only [Bool.not_false, cond_true, h1, h2, decide_true, wP (show p < 4611686018427387904 by omega), Int.natCast_nonneg, chks_t, chks_nil, Int.toNat_natCast, hg]
      by_cases hlt : b0 < (out.getD p dCard).1
      · simp only [hlt, decide_true, cond_true]
        obtain ⟨q, q1, q2, q3⟩ := ih n (by omega) (by omega) (.inr hlt)
        exact ⟨q, q1, q2, fun _ => q3 rfl⟩
      · simp only [hlt, decide_false, cond_false]
        refine ⟨p + 1, hp, hput, fun _ => ⟨.inr ?_, hb⟩⟩
        rw [Nat.add_sub_cancel]
        omega
theorem gen_args (ρ3 : St → Option (List DCard)) (l0 : List DCard) (raw : Bool) (out : List DCard) (ho : out.length < 1000) (i : Nat) (hi : i < l0.length) (b0 : Int) : ∀ (d j n : Nat) (b1 : List (List UInt8)), j + d = 3 → d < n → b1.length ≤ j → (∀ a ∈ b1, a.length ≤ 19) → (raw = false → ∀ a ∈ b1, okArg a = true) →
    ∃ b1' : List (List UInt8), b1'.length ≤ 3 ∧ (∀ a ∈ b1', a.length ≤ 19) ∧ (raw = false → ∀ a ∈ b1', okArg a = true) ∧
      ammonitelaw11_cards.l7 K ρ3 n l0 raw out i j b0 b1 = ammonitelaw11_cards.l16 K ρ3 K l0 raw out i out.length (if raw then b0 else IntKind.wrap .u8 (65 + Int.tmod b0 25)) b1' := by
  have hii : (i : Int) < (l0.length : Int) := by omega
  intro d
  induction d with
  | zero =>
    intro j n b1 hj hn h1 h2 h3
    obtain ⟨n, rfl⟩ : ∃ m, n = m + 1 := ⟨n - 1, by omega⟩
    refine ⟨b1, by omega, h2, h3, ?_⟩
    have hj3 : ¬ ((j : Int) < 3) := by omega
    rw [ammonitelaw11_cards.l7_succ]
    simp only [hii, Int.natCast_nonneg, decide_true, chks_t, chks_nil, hj3, decide_false, cond_false]
    cases raw <;> simp
  | succ d ih =>
    intro j n b1 hj hn h1 h2 h3
    obtain ⟨n, rfl⟩ : ∃ m, n = m + 1 := ⟨n - 1, by omega⟩
    have hj3 : (j : Int) < 3 := by omega
    rw [ammonitelaw11_cards.l7_succ]
    obtain ⟨g, hg⟩ : ∃ g, l0.getD i (DTy.dflt (.prod (.int .u8) (.prod (.slice .str) .unit))) = g := ⟨_, rfl⟩
    obtain ⟨a, hga⟩ : ∃ a : List UInt8, List.getD g.2.1 j (DTy.dflt .str) = a := ⟨_, rfl⟩
    simp only [hii, Int.natCast_nonneg, decide_true, chks_t, chks_nil, hj3, cond_true, Int.toNat_natCast, hg, hga]
    by_cases hja : (j : Int) < (g.2.1.length : Int)
    · simp only [hja, decide_true, cond_true, chks_t, chks_nil]
      have m1 := min_lo a.length (show (0 : Int) ≤ 9 by decide)
      have m2 := min_hi 9 a.length
      have hc := cut_min a (show (0 : Int) ≤ 9 by decide)
      simp only [m1, m2, decide_true, chks_t, chks_nil, hc, wS (show j < 4611686018427387904 by omega)]
      have ht : (a.take (9 : Int).toNat).length ≤ 9 := by simp; omega
      obtain ⟨u, hu⟩ : ∃ u, a.take (9 : Int).toNat = u := ⟨_, rfl⟩
      rw [hu] at ht
      simp only [hu]
      cases raw with
      | true =>
        simp only [Bool.not_true, cond_false]
        rw [growOk_t (by omega) (by simp; omega), chks_t, chks_nil]
        obtain ⟨b1', r1, r2, r3, r4⟩ := ih (j + 1) n (b1 ++ [u]) (by omega) (by omega) (by simp; omega) (fun x hx => by
          simp only [List.mem_append, List.mem_singleton] at hx
          rcases hx with hx | rfl
          · exact h2 x hx
          · omega) (fun h => by cases h)
        exact ⟨b1', r1, r2, r3, r4⟩
      | false =>
        have hel := escS_len u
        have hef := escS_free u
        simp only [Bool.not_false, cond_true]
        rw [esc_eq hK (by omega), Option.bind_some, catOk_t (by simp; omega), growOk_t (by omega) (by simp; omega)]
        simp only [chks_t, chks_nil]
        obtain ⟨b1', r1, r2, r3, r4⟩ := ih (j + 1) n (b1 ++ [[97] ++ escS u]) (by omega) (by omega) (by simp; omega) (fun x hx => by
          simp only [List.mem_append, List.mem_singleton] at hx
          rcases hx with hx | rfl
          · exact h2 x hx
          · simp; omega) (fun h x hx => by
          simp only [List.mem_append, List.mem_singleton] at hx
          rcases hx with hx | rfl
          · exact h3 h x hx
          · refine okArg_iff.2 ⟨by simp, ?_, ?_⟩
            · simp only [List.mem_append, List.mem_singleton, not_or]; exact ⟨by decide, hef.1⟩
            · simp only [List.mem_append, List.mem_singleton, not_or]; exact ⟨by decide, hef.2⟩)
        exact ⟨b1', r1, r2, fun _ => r3 rfl, r4⟩
    · refine ⟨b1, by omega, h2, h3, ?_⟩
      simp only [hja, decide_false, cond_false]
      cases raw <;> simp
theorem gen_loop (l0 : List DCard) (raw : Bool) (hl : ∀ g ∈ l0, 0 ≤ g.1 ∧ g.1 < 256) : ∀ (d i n : Nat) (out : List DCard), i + d = 6 → d < n → Szd raw i out → ∃ x, ammonitelaw11_cards.l3 K n l0 raw out i = some x ∧ Szd raw 6 x := by
  intro d
  induction d with
  | zero =>
    intro i n out hi hn hs
    obtain ⟨n, rfl⟩ : ∃ m, n = m + 1 := ⟨n - 1, by omega⟩
    have hs6 : Szd raw 6 out := ⟨by have := hs.len; omega, hs.args, hs.arg, hs.lo, hs.hi, hs.row⟩
    refine ⟨out, ?_, hs6⟩
    have h6 : ¬ ((i : Int) < 6) := by omega
    rw [ammonitelaw11_cards.l3_succ]
    simp only [h6, decide_false, cond_false]
    cases decide ((i : Int) < (l0.length : Int)) <;> rfl
  | succ d ih =>
    intro i n out hi hn hs
    obtain ⟨n, rfl⟩ : ∃ m, n = m + 1 := ⟨n - 1, by omega⟩
    have hs6 : Szd raw 6 out := ⟨by have := hs.len; omega, hs.args, hs.arg, hs.lo, hs.hi, hs.row⟩
    have h6 : (i : Int) < 6 := by omega
    have hlen := hs.len
    rw [ammonitelaw11_cards.l3_succ]
    by_cases hil : i < l0.length
    · have hii : (i : Int) < (l0.length : Int) := by omega
      simp only [hii, h6, Int.natCast_nonneg, decide_true, cond_true, chks_t, chks_nil, Int.toNat_natCast]
      have hmem : l0.getD i dCard ∈ l0 := by
        rw [List.getD_eq_getElem?_getD, List.getElem?_eq_getElem hil]
        exact List.getElem_mem hil
      have hg : l0.getD i (DTy.dflt (.prod (.int .u8) (.prod (.slice .str) .unit))) = l0.getD i dCard := rfl
      rw [hg]
      obtain ⟨g1, g2⟩ := hl _ hmem
      generalize hb0 : (l0.getD i dCard).1 = b0 at g1 g2
      obtain ⟨b1', r1, r2, r3, r4⟩ := gen_args hK (ammonitelaw11_cards.r3 K n) l0 raw out (by omega) i hil b0 3 0 K [] rfl (by omega) (by simp) (fun a ha => by cases ha) (fun _ a ha => by cases ha)
      have hz : ((0 : Nat) : Int) = 0 := rfl
      rw [hz] at r4
      rw [r4]
      have ht1 : 0 ≤ Int.tmod b0 25 := Int.tmod_nonneg _ g1
      have ht2 : Int.tmod b0 25 < 25 := Int.tmod_lt_of_pos _ (by decide)
      have hw8 : IntKind.wrap .u8 (65 + Int.tmod b0 25) = 65 + Int.tmod b0 25 := IntWalk.u8_in _ (by omega)
      have hlet : ∀ e, e = (if raw then b0 else IntKind.wrap .u8 (65 + Int.tmod b0 25)) → 0 ≤ e ∧ e < 256 ∧ (raw = false → 65 ≤ e ∧ e ≤ 89) := by
        intro e he
        cases raw with
        | true => simp at he; subst he; exact ⟨g1, g2, fun h => by cases h⟩
        | false => simp at he; rw [hw8] at he; subst he; exact ⟨by omega, by omega, fun _ => ⟨by omega, by omega⟩⟩
      generalize he : (if raw then b0 else IntKind.wrap .u8 (65 + Int.tmod b0 25)) = e
      obtain ⟨e1, e2, e3⟩ := hlet e he.symm
      obtain ⟨q, q1, q2, q3⟩ := gen_at hK (ammonitelaw11_cards.r3 K n) l0 raw out (by omega) i e b1' out.length K (Nat.le_refl _) (by omega) (.inl rfl)
      rw [q2, wS (by omega)]
      refine ih (i + 1) n (out.take q ++ [(e, b1', ())] ++ out.drop q) (by omega) (by omega) ⟨by rw [ins_len]; omega, ?_, ?_, ?_, ?_, ?_⟩
      · intro c hc
        rcases ins_mem hc with h | rfl
        · exact hs.args c h
        · exact r1
      · intro c hc
        rcases ins_mem hc with h | rfl
        · exact hs.arg c h
        · exact r2
      · intro c hc
        rcases ins_mem hc with h | rfl
        · exact hs.lo c h
        · exact e1
      · intro c hc
        rcases ins_mem hc with h | rfl
        · exact hs.hi c h
        · exact e2
      · intro hr
        exact okRow_ins (hs.row hr) ⟨(e3 hr).1, (e3 hr).2, r3 hr⟩ q1 (q3 hr).1 (q3 hr).2
    · have hii : ¬ ((i : Int) < (l0.length : Int)) := by omega
      refine ⟨out, ?_, hs6⟩
      simp only [hii, decide_false, cond_false]
theorem gen_eq {l0 : List DCard} (raw : Bool) (hl : ∀ g ∈ l0, 0 ≤ g.1 ∧ g.1 < 256) : ∃ x, ammonitelaw11_cards.f K ((l0, raw, ()) : List DCard × Bool × Unit) = some x ∧ Szd raw 6 x := by
  rw [ammonitelaw11_cards.eq]
  exact gen_loop hK l0 raw hl 6 0 K [] rfl (by omega) ⟨by simp, (fun c h => by cases h), (fun c h => by cases h), (fun c h => by cases h), (fun c h => by cases h), (fun _ => rfl)⟩
/-! ### CardOnly -/
theorem only_loop (s : List UInt8) (x : List DCard) (ok : Bool) (hx : ∀ c ∈ x, c.2.1.length < 900000) (hl : x.length < 900000) (hb : ok = true → (bodyS x).length < 900000 ∧ printS x = s) (t : Int) (ht : t = (x.length : Int)) : ∀ (r : List DCard) (k n : Nat), x.drop k = r → k ≤ x.length → r.length < n →
    ammonitelaw11_CardOnly.l20 K n s x ok x t k = some true := by
  subst ht
  intro r
  induction r with
  | nil =>
    intro k n hd hk hn
    have := drop_nil hd hk
    subst this
    obtain ⟨n, rfl⟩ : ∃ m, n = m + 1 := ⟨n - 1, by omega⟩
    rw [ammonitelaw11_CardOnly.l20_succ]
    simp only [Int.lt_irrefl, decide_false, cond_false]
    cases ok with
    | false => simp [cruns_eq hK]
    | true =>
      obtain ⟨h1, h2⟩ := hb rfl
      rw [print_eq hK (by omega), h2, cruns_eq hK]
      simp
  | cons c r ih =>
    intro k n hd hk hn
    obtain ⟨n, rfl⟩ : ∃ m, n = m + 1 := ⟨n - 1, by omega⟩
    simp only [List.length_cons] at hn
    obtain ⟨hg, hlt, hd'⟩ := getD_drop (d := DTy.dflt (.prod (.int .u8) (.prod (.slice .str) .unit))) hd
    have hmem : c ∈ x := List.mem_of_mem_drop (i := k) (by rw [hd]; exact List.mem_cons_self)
    have h1 : (k : Int) < (x.length : Int) := by omega
    rw [ammonitelaw11_CardOnly.l20_succ]
    simp only [h1, Int.natCast_nonneg, decide_true, cond_true, chks_t, chks_nil, Int.toNat_natCast, hg, wS (show k < 4611686018427387904 by omega), Bool.not_true, cond_false]
    rw [sames_eq hK (hx c hmem)]
    simp only [decide_true, Option.bind_some, Bool.not_true, cond_false]
    exact ih (k + 1) n hd' (by omega) (by omega)
theorem only_tail {s : List UInt8} (hs : s.length < 300000) : ammonitelaw11_CardOnly.j15 K s = some true := by
  obtain ⟨x, ok, r1, r2, r3, r4⟩ := read_eq hK hs
  obtain ⟨y, is, c1, c2, c3, c4⟩ := cards_eq hK hs
  have hsame : ok = is ∧ x = y := by
    cases ok with
    | true => obtain ⟨h1, h2⟩ := c4 x (r2 rfl).1 (r2 rfl).2; exact ⟨h1.symm, h2.symm⟩
    | false =>
      cases is with
      | true => obtain ⟨h1, h2⟩ := r4 y (c2 rfl).1 (c2 rfl).2; cases h1
      | false => exact ⟨rfl, by rw [r3 rfl, c3 rfl]⟩
  obtain ⟨rfl, rfl⟩ := hsame
  rw [ammonitelaw11_CardOnly.j15_eq (by omega), r1, Option.bind_some, c1, Option.bind_some]
  have hbody : ok = true → (bodyS x).length < 900000 ∧ printS x = s := by
    intro h
    refine ⟨?_, (r2 h).2⟩
    have h2 := (r2 h).2
    unfold printS at h2
    rw [(r2 h).1] at h2
    have h3 := congrArg List.length h2
    unfold sealS at h3
    simp at h3
    omega
  have hx : (∀ c ∈ x, c.2.1.length < 900000) ∧ x.length < 900000 := by
    cases ok with
    | false => rw [r3 rfl]; exact ⟨fun c h => (by cases h), by simp⟩
    | true =>
      have hb := (hbody rfl).1
      have := body_len x
      exact ⟨fun c hc => by have := args_num c; have := body_mem x c hc; omega, by omega⟩
  have hloop := only_loop hK s x ok hx.1 hx.2 hbody _ rfl x 0 K rfl (Nat.zero_le _) (by omega)
  have hz : ((0 : Nat) : Int) = 0 := rfl
  rw [hz] at hloop
  have hbb : (ok == ok) = true := by simp
  simp only [hbb, Bool.not_true, cond_false, decide_true, hloop]
  cases ok with
  | true => rfl
  | false => rw [r3 rfl]; rfl
theorem only_eq {l0 : List DCard} (raw : List UInt8) (at_ c how : Int) (hl : ∀ g ∈ l0, 0 ≤ g.1 ∧ g.1 < 256) : ammonitelaw11_CardOnly.f K (l0, raw, at_, c, how, ()) = some true := by
  obtain ⟨x, x1, x2⟩ := gen_eq hK (l0 := l0) false hl
  have hbx := x2.body
  have hk0 : 0 < K := by omega
  have j13 : ∀ s : List UInt8, s.length < 1000 → ammonitelaw11_CardOnly.j13 K raw c how s = some true := by
    intro s hs
    rw [ammonitelaw11_CardOnly.j13_eq hk0]
    have m1 := min_lo raw.length (show (0 : Int) ≤ 4 by decide)
    have m2 := min_hi 4 raw.length
    have hc := cut_min raw (show (0 : Int) ≤ 4 by decide)
    simp only [m1, m2, decide_true, chks_t, chks_nil, hc]
    have ht : (raw.take (4 : Int).toNat).length ≤ 4 := by simp; omega
    obtain ⟨u, hu⟩ : ∃ u, raw.take (4 : Int).toNat = u := ⟨_, rfl⟩
    rw [hu] at ht
    simp only [hu]
    cases decide (bit2 .and .i64 how 7 = 7) with
    | false => exact only_tail hK (by omega)
    | true =>
      have hb : (bodyS [(66, [u], ()), (c, [], ())]).length ≤ 20 := by
        simp [bodyS, cardLine, Lib.join_cons, Lib.joinTail]
        omega
      rw [cond_true, rprint_eq hK (by omega), Option.bind_some]
      refine only_tail hK ?_
      unfold sealS
      simp [sumS_len]
      omega
  have j4 : ∀ s : List UInt8, s.length < 900 → ammonitelaw11_CardOnly.j4 K raw at_ c how s = some true := by
    intro s hs
    rw [ammonitelaw11_CardOnly.j4_eq hk0]
    by_cases h0 : (0 : Int) < (s.length : Int)
    · have hw : IntKind.wrap .i64 ((s.length : Int) - 1) = (s.length : Int) - 1 := w64 (by omega) (by omega)
      obtain ⟨v, v1, v2, v3⟩ := within_eq K (n := at_) (lo := 0) (hi := (s.length : Int) - 1) (by omega) (by omega) (by omega)
      obtain ⟨j, rfl⟩ : ∃ j : Nat, v = j := ⟨v.toNat, by omega⟩
      have b1 : (j : Int) ≤ (s.length : Int) := by omega
      have b2 : ((j + 1 : Nat) : Int) ≤ (s.length : Int) := by omega
      have m1 := min_lo raw.length (show (0 : Int) ≤ 5 by decide)
      have m2 := min_hi 5 raw.length
      have hc := cut_min raw (show (0 : Int) ≤ 5 by decide)
      simp only [h0, decide_true, cond_true, hw, v1, Option.bind_some, b1, b2, Int.natCast_nonneg, chks_t, chks_nil, m1, m2, hc, wS (show j < 4611686018427387904 by omega), cutL_to, cutL_from, textOf_one]
      rw [catOk_t (by simp; omega), catOk_t (by simp; omega), catOk_t (by simp; omega), j13 _ (by simp; omega), j13 _ (by simp; omega), j13 _ (by simp; omega), j13 _ (by omega)]
      cases decide (bit2 .and .i64 how 3 = 0) <;> cases decide (bit2 .and .i64 how 3 = 1) <;> cases decide (bit2 .and .i64 how 3 = 2) <;> rfl
    · simp only [h0, decide_false, cond_false]
      exact j13 _ (by omega)
  rw [ammonitelaw11_CardOnly.eq, x1, Option.bind_some, print_eq hK (by omega), Option.bind_some]
  have m1 := min_lo raw.length (show (0 : Int) ≤ 20 by decide)
  have m2 := min_hi 20 raw.length
  have hc := cut_min raw (show (0 : Int) ≤ 20 by decide)
  simp only [m1, m2, decide_true, chks_t, chks_nil, hc]
  rw [j4 _ (by simp; omega), j4 _ (by unfold printS; split <;> (try unfold sealS) <;> simp [sumS_len] <;> omega)]
  cases decide (printS x = []) <;> rfl
end
theorem u8_range {n : Int} (h : (Lit.int .u8 n).wf = true) : 0 ≤ n ∧ n < 256 := by
  simp [Lit.wf, IntKind.min, IntKind.max, IntKind.bits, IntKind.signed] at h
  omega
theorem given_range {l : List DCard} (h : Fit (.slice (.prod (.int .u8) (.prod (.slice .str) .unit))) l) : ∀ g ∈ l, 0 ≤ g.1 ∧ g.1 < 256 := by
  intro g hg
  obtain ⟨i, hi, rfl⟩ := List.mem_iff_getElem.1 hg
  have := h.2 i hi
  have e : l.getD i (DTy.dflt (.prod (.int .u8) (.prod (.slice .str) .unit))) = l[i] := by simp [hi]
  rw [e] at this
  exact u8_range this.1
theorem cardOnly_plain (x : (prodT [.slice (.prod (.int .u8) (.prod (.slice .str) .unit)), .str, .int .i64, .int .u8, .int .i64]).den) (h : Fit (prodT [.slice (.prod (.int .u8) (.prod (.slice .str) .unit)), .str, .int .i64, .int .u8, .int .i64]) x) :
    ammonitelaw11_CardOnly.f 1000000 x = some true := only_eq (Nat.le_refl _) x.2.1 x.2.2.1 x.2.2.2.1 x.2.2.2.2.1 (given_range h.1)
theorem cardRuns_plain (x : (prodT []).den) (h : Fit (prodT []) x) : ammonitelaw11_CardRuns.f 1000000 x = some true := cruns_eq (Nat.le_refl _)
end Go.Proofs.Ytlecpcofgnincaa.Ab
