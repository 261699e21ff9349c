/- Plain laws of the printed functions of package digit and of their references: what is put, what is read. -/
import Derived.Test.YtldbhkhblkgnnaaPBase
import Derived.Test.YtldbhkhblkgnnaaHx1
namespace Go.Proofs.Ytldbhkhblkgnnaa.B
open Go.RowKit Go.Proofs.Ytldbhkhblkgnnaa.PW Go.Proofs.Ytldbhkhblkgnnaa.Given Go.Proofs.Ytldbhkhblkgnnaa.Q Go.Proofs.YtldbhkhblkgnnaaW.PrintWords Go.Proofs.YtldbhkhblkgnnaaW.PrintMore
/-- The 64 digits. -/
def DG : ByteArray := ⟨#[48, 49, 50, 51, 52, 53, 54, 55, 56, 57, 65, 66, 67, 68, 69, 70, 71, 72, 73, 74, 75, 76, 77, 78, 79, 80, 81, 82, 83, 84, 85, 86, 87, 88, 89, 90, 95, 97, 98, 99, 100, 101, 102, 103, 104, 105, 106, 107, 108, 109, 110, 111, 112, 113, 114, 115, 116, 117, 118, 119, 120, 121, 122, 126]⟩
/-- A byte's value as a digit; -1: it is none. -/
def val (c : Int) : Int := Lib.indexByte DG.data.toList c.toNat.toUInt8
/-- A digit's byte. -/
def dig (d : Nat) : Int := (bytesOf DG).getD d 0
theorem val_all : ∀ c : Fin 256, -1 ≤ val (c.val : Int) ∧ val (c.val : Int) < 64 ∧ (0 ≤ val (c.val : Int) → dig (val (c.val : Int)).toNat = c.val) := by decide +kernel
theorem dig_all : ∀ d : Fin 64, val (dig d.val) = d.val ∧ 0 ≤ dig d.val ∧ dig d.val < 256 ∧ (dig d.val = 48 ↔ d.val = 0) := by decide +kernel
theorem val_range {c : Int} (h0 : 0 ≤ c) (h1 : c < 256) : -1 ≤ val c ∧ val c < 64 ∧ (0 ≤ val c → dig (val c).toNat = c) := by
  have := val_all ⟨c.toNat, by omega⟩
  simp only [Int.toNat_of_nonneg h0] at this
  exact this
theorem dig_range {d : Nat} (h : d < 64) : val (dig d) = d ∧ 0 ≤ dig d ∧ dig d < 256 ∧ (dig d = 48 ↔ d = 0) := dig_all ⟨d, h⟩
theorem find_val (c : Int) : strings_IndexByte.f DG c = some (val c) := rfl
theorem wraps_i64 (n : Int) (h0 : 0 ≤ n) (h1 : n < 2 ^ 63) : IntKind.i64.wrap n = n := by
  simp only [IntKind.wrap, IntKind.bits, IntKind.signed]
  have : n % 2 ^ 64 = n := Int.emod_eq_of_lt h0 (by omega)
  simp only [this]
  split
  · rename_i h; simp at h; omega
  · rfl
theorem or64 {n t : Int} (h0 : 0 ≤ n) (h1 : n ≤ 1073741824) (h2 : 0 ≤ t) (h3 : t < 64) : Go.bits .or .i64 (wrap64 (n * 64)) t = n * 64 + t := by
  rw [w64 (by omega) (by omega)]
  exact bits_join .i64 63 (by decide) wraps_i64 6 (n * 64) t (by omega) (by omega) (by omega) h2 (by omega) (by omega)
/-- Read's loop. -/
def rdGo (z : Prop) [Decidable z] (a : Nat) : List Int → Int → Nat → Int × Int × Bool
  | [], n, i => if i = a then (0, 0, false) else (n, i, true)
  | c :: l, n, i => if val c < 0 then (if i = a then (0, 0, false) else (n, i, true)) else if n * 64 + val c > 1073741824 then (0, 0, false) else if a < i ∧ z then (0, 0, false) else rdGo z a l (n * 64 + val c) (i + 1)
/-! ### Read, in closed form -/
/-- The digits that a list begins with. -/
def digs (l : List Int) : List Int := l.takeWhile fun c => decide (0 ≤ val c)
/-- What digits say, behind n. -/
def vals : List Int → Int → Int
  | [], n => n
  | c :: l, n => vals l (n * 64 + val c)
theorem vals_le (l : List Int) : ∀ n, 0 ≤ n → (∀ c ∈ l, 0 ≤ val c) → n ≤ vals l n := by
  induction l with
  | nil => intro n _ _; exact Int.le_refl _
  | cons c l ih =>
    intro n h0 h
    have hc := h c (List.mem_cons_self ..)
    have := ih (n * 64 + val c) (by omega) (fun x hx => h x (List.mem_cons_of_mem _ hx))
    unfold vals
    omega
theorem digs_all (l : List Int) : ∀ c ∈ digs l, 0 ≤ val c := by
  induction l with
  | nil => intro c hc; simp [digs] at hc
  | cons a l ih =>
    intro c hc
    unfold digs at hc ih
    rw [List.takeWhile_cons] at hc
    split at hc
    · rename_i h
      cases hc with
      | head => simpa using h
      | tail _ hc => exact ih c hc
    · simp at hc
theorem digs_yes {c : Int} (l : List Int) (h : 0 ≤ val c) : digs (c :: l) = c :: digs l := by
  unfold digs
  rw [List.takeWhile_cons, if_pos (by simpa using h)]
theorem digs_no {c : Int} (l : List Int) (h : ¬ 0 ≤ val c) : digs (c :: l) = [] := by
  unfold digs
  rw [List.takeWhile_cons, if_neg (by simpa using h)]
theorem rdGo_closed (z : Prop) [Decidable z] (a : Nat) (l : List Int) : ∀ (n : Int) (i : Nat), a ≤ i → 0 ≤ n → n ≤ 1073741824 →
    rdGo z a l n i = if (i = a ∧ digs l = []) ∨ vals (digs l) n > 1073741824 ∨ (z ∧ (a < i ∧ digs l ≠ [] ∨ 2 ≤ (digs l).length)) then (0, 0, false) else (vals (digs l) n, ((i + (digs l).length : Nat) : Int), true) := by
  induction l with
  | nil =>
    intro n i h1 h2 h3
    have hd : digs [] = [] := rfl
    rw [hd]
    unfold rdGo
    by_cases e : i = a
    · rw [if_pos e, if_pos (Or.inl ⟨e, rfl⟩)]
    · rw [if_neg e, if_neg]
      · rfl
      · rintro (h | h | h)
        · exact e h.1
        · unfold vals at h; omega
        · rcases h.2 with h | h
          · exact h.2 rfl
          · simp at h
  | cons c l ih =>
    intro n i h1 h2 h3
    unfold rdGo
    by_cases h : val c < 0
    · rw [if_pos h, digs_no l (by omega)]
      by_cases e : i = a
      · rw [if_pos e, if_pos (Or.inl ⟨e, rfl⟩)]
      · rw [if_neg e, if_neg]
        · rfl
        · rintro (h | h | h)
          · exact e h.1
          · unfold vals at h; omega
          · rcases h.2 with h | h
            · exact h.2 rfl
            · simp at h
    · rw [if_neg h, digs_yes l (by omega)]
      have hv : vals (c :: digs l) n = vals (digs l) (n * 64 + val c) := rfl
      rw [hv]
      by_cases g : n * 64 + val c > 1073741824
      · rw [if_pos g, if_pos]
        have := vals_le (digs l) (n * 64 + val c) (by omega) (digs_all l)
        exact Or.inr (Or.inl (by omega))
      · rw [if_neg g]
        by_cases y : a < i ∧ z
        · rw [if_pos y, if_pos]
          exact Or.inr (Or.inr ⟨y.2, Or.inl ⟨y.1, by simp⟩⟩)
        · rw [if_neg y, ih (n * 64 + val c) (i + 1) (by omega) (by omega) (by omega)]
          have e : (((i + 1 = a ∧ digs l = []) ∨ vals (digs l) (n * 64 + val c) > 1073741824 ∨ (z ∧ (a < i + 1 ∧ digs l ≠ [] ∨ 2 ≤ (digs l).length))) ↔ ((i = a ∧ c :: digs l = []) ∨ vals (digs l) (n * 64 + val c) > 1073741824 ∨ (z ∧ (a < i ∧ c :: digs l ≠ [] ∨ 2 ≤ (c :: digs l).length)))) := by
            have q : digs l ≠ [] ↔ 1 ≤ (digs l).length := by rw [← List.length_pos_iff]; omega
            simp only [List.length_cons, q, reduceCtorEq, and_false, false_or, not_false_eq_true, and_true, ne_eq]
            constructor
            · rintro (h | h | ⟨h, h'⟩)
              · omega
              · exact Or.inl h
              · exact Or.inr ⟨h, by omega⟩
            · rintro (h | ⟨h, h'⟩)
              · exact Or.inr (Or.inl h)
              · refine Or.inr (Or.inr ⟨h, ?_⟩)
                have : ¬ a < i := fun x => y ⟨x, h⟩
                omega
          by_cases d : ((i = a ∧ c :: digs l = []) ∨ vals (digs l) (n * 64 + val c) > 1073741824 ∨ (z ∧ (a < i ∧ c :: digs l ≠ [] ∨ 2 ≤ (c :: digs l).length)))
          · rw [if_pos d, if_pos (e.2 d)]
          · rw [if_neg d, if_neg (fun x => d (e.1 x))]
            simp only [List.length_cons, Prod.mk.injEq, and_true, true_and]
            omega
/-- What is read at the begin of a list: the number, how many digits. -/
def rdS (l : List Int) : Option (Int × Nat) :=
  if digs l = [] ∨ vals (digs l) 0 > 1073741824 ∨ (l.head? = some 48 ∧ 2 ≤ (digs l).length) then none else some (vals (digs l) 0, (digs l).length)
/-- Read's answer. -/
def rdR (s : ByteArray) (a : Int) : Int × Int × Bool :=
  if a < 0 ∨ (s.size : Int) ≤ a then (0, 0, false) else match rdS ((bytesOf s).drop a.toNat) with
  | none => (0, 0, false)
  | some (v, n) => (v, a + n, true)
/-! ### Put -/
/-- A number's digits. -/
def putL (n : Nat) : List Int := if n < 64 then [dig n] else putL (n / 64) ++ [dig (n % 64)]
termination_by n
decreasing_by omega
theorem putL_lt {n : Nat} (h : n < 64) : putL n = [dig n] := by rw [putL, if_pos h]
theorem putL_ge {n : Nat} (h : ¬ n < 64) : putL n = putL (n / 64) ++ [dig (n % 64)] := by rw [putL, if_neg h]
theorem putL_len (n : Nat) : 1 ≤ (putL n).length ∧ (n < 64 → (putL n).length = 1) ∧ (putL n).length ≤ n + 1 := by
  induction n using Nat.strongRecOn with
  | _ n ih =>
    by_cases h : n < 64
    · rw [putL_lt h]; simp
    · rw [putL_ge h]
      have := ih (n / 64) (by omega)
      simp only [List.length_append, List.length_cons, List.length_nil]
      omega
theorem putL_mem (n : Nat) : ∀ c ∈ putL n, 0 ≤ c ∧ c < 256 ∧ 0 ≤ val c := by
  induction n using Nat.strongRecOn with
  | _ n ih =>
    intro c hc
    by_cases h : n < 64
    · rw [putL_lt h] at hc
      have d := dig_range h
      simp only [List.mem_singleton] at hc
      subst hc
      exact ⟨d.2.1, d.2.2.1, by rw [d.1]; omega⟩
    · rw [putL_ge h, List.mem_append] at hc
      rcases hc with hc | hc
      · exact ih (n / 64) (by omega) c hc
      · have d := dig_range (d := n % 64) (by omega)
        simp only [List.mem_singleton] at hc
        subst hc
        exact ⟨d.2.1, d.2.2.1, by rw [d.1]; omega⟩
theorem vals_app (l m : List Int) : ∀ n, vals (l ++ m) n = vals m (vals l n) := by
  induction l with
  | nil => intro n; rfl
  | cons c l ih => intro n; exact ih _
theorem vals_put (n : Nat) : vals (putL n) 0 = n := by
  induction n using Nat.strongRecOn with
  | _ n ih =>
    by_cases h : n < 64
    · rw [putL_lt h]
      simp only [vals, (dig_range h).1]
      omega
    · rw [putL_ge h, vals_app, ih (n / 64) (by omega)]
      simp only [vals, (dig_range (d := n % 64) (by omega)).1]
      omega
/-- What Put hands back. -/
def putB (n : Nat) : ByteArray := strOfNums (putL n)
theorem bytesOf_put (n : Nat) : bytesOf (putB n) = putL n := bytesOf_nums fun x hx => ⟨(putL_mem n x hx).1, (putL_mem n x hx).2.1⟩
theorem size_put (n : Nat) : (putB n).size = (putL n).length := size_nums _
theorem cut_dig : ∀ d : Fin 64, bytesOf (cutS DG d.val (d.val + 1)) = [dig d.val] := by decide +kernel
theorem and63 {x : Int} (h0 : 0 ≤ x) (h1 : x < 9223372036854775808) : Go.bits .and .i64 x 63 = x % 64 :=
  bits_mask .i64 63 (by decide) wraps_i64 6 (by decide) x h0 (by omega)
theorem cut_DG {x : Int} (h0 : 0 ≤ x) (h1 : x < 9223372036854775808) :
    cutS DG (Go.bits .and .i64 x 63).toNat (wrap64 (Go.bits .and .i64 x 63 + 1)).toNat = strOfNums [dig (x.toNat % 64)] := by
  rw [and63 h0 h1, w64 (by omega) (by omega)]
  have e1 : (x % 64).toNat = x.toNat % 64 := by omega
  have e2 : (x % 64 + 1).toNat = x.toNat % 64 + 1 := by omega
  rw [e1, e2]
  have d := dig_range (d := x.toNat % 64) (by omega)
  apply bytesOf_inj
  rw [cut_dig ⟨x.toNat % 64, by omega⟩, bytesOf_nums]
  intro c hc
  simp only [List.mem_singleton] at hc
  subst hc
  exact ⟨d.2.1, d.2.2.1⟩
theorem may_yes {n : Int} (h0 : 0 ≤ n) (h1 : n ≤ 1073741824) : digit_may.f n = some true := by
  unfold digit_may.f; rw [if_pos h0, decide_eq_true h1]
theorem may_no {n : Int} (h : n < 0 ∨ 1073741824 < n) : digit_may.f n = some false := by
  unfold digit_may.f
  by_cases h0 : n ≥ 0
  · rw [if_pos h0, decide_eq_false (by omega)]
  · rw [if_neg h0]
/-! ### Dec, ReadDec -/
/-- A number's decimals. -/
def decL (n : Nat) : List Int := if n < 10 then [48 + (n : Int)] else decL (n / 10) ++ [48 + ((n % 10 : Nat) : Int)]
termination_by n
decreasing_by omega
theorem decL_lt {n : Nat} (h : n < 10) : decL n = [48 + (n : Int)] := by rw [decL, if_pos h]
theorem decL_ge {n : Nat} (h : ¬ n < 10) : decL n = decL (n / 10) ++ [48 + ((n % 10 : Nat) : Int)] := by rw [decL, if_neg h]
theorem decL_mem (n : Nat) : ∀ c ∈ decL n, 48 ≤ c ∧ c ≤ 57 := by
  induction n using Nat.strongRecOn with
  | _ n ih =>
    intro c hc
    by_cases h : n < 10
    · rw [decL_lt h, List.mem_singleton] at hc; omega
    · rw [decL_ge h, List.mem_append, List.mem_singleton] at hc
      rcases hc with hc | hc
      · exact ih (n / 10) (by omega) c hc
      · omega
theorem decL_len (n : Nat) : 1 ≤ (decL n).length ∧ (decL n).length ≤ n + 1 := by
  induction n using Nat.strongRecOn with
  | _ n ih =>
    by_cases h : n < 10
    · rw [decL_lt h]; simp
    · rw [decL_ge h]
      have := ih (n / 10) (by omega)
      simp only [List.length_append, List.length_cons, List.length_nil]
      omega
/-- What decimals say, behind n. -/
def dvals : List Int → Int → Int
  | [], n => n
  | c :: l, n => dvals l (n * 10 + (c - 48))
theorem dvals_app (l m : List Int) : ∀ n, dvals (l ++ m) n = dvals m (dvals l n) := by
  induction l with
  | nil => intro n; rfl
  | cons c l ih => intro n; exact ih _
theorem dvals_dec (n : Nat) : dvals (decL n) 0 = n := by
  induction n using Nat.strongRecOn with
  | _ n ih =>
    by_cases h : n < 10
    · rw [decL_lt h]; simp only [dvals]; omega
    · rw [decL_ge h, dvals_app, ih (n / 10) (by omega)]
      simp only [dvals]
      omega
/-- The first decimal of a number is no nought, but nought's own. -/
theorem decL_head (n : Nat) (hn : 0 < n) : (decL n).head? ≠ some 48 := by
  induction n using Nat.strongRecOn with
  | _ n ih =>
    by_cases h : n < 10
    · rw [decL_lt h]; simp; omega
    · rw [decL_ge h]
      have := ih (n / 10) (by omega) (by omega)
      have hl := (decL_len (n / 10)).1
      cases hd : decL (n / 10) with
      | nil => rw [hd] at hl; simp at hl
      | cons a l => rw [hd] at this; simpa using this
def decB (n : Nat) : ByteArray := strOfNums (decL n)
theorem bytesOf_dec (n : Nat) : bytesOf (decB n) = decL n := bytesOf_nums fun x hx => by have := decL_mem n x hx; omega
theorem size_dec (n : Nat) : (decB n).size = (decL n).length := size_nums _
theorem dec_digit {x : Int} (h0 : 0 ≤ x) (h1 : x ≤ 1073741824) : (wrap64 (48 + Int.tmod x 10)) % 256 = 48 + ((x.toNat % 10 : Nat) : Int) := by
  rw [Int.tmod_eq_emod_of_nonneg h0, w64 (by omega) (by omega)]; omega
theorem dec_next {x : Int} (h0 : 0 ≤ x) (h1 : x ≤ 1073741824) : wrap64 (Int.tdiv x 10) = ((x.toNat / 10 : Nat) : Int) := by
  rw [Int.tdiv_eq_ediv_of_nonneg h0, w64 (by omega) (by omega)]; omega
theorem one_dec (m : Nat) : bytesOf (strOfNums [48 + ((m % 10 : Nat) : Int)]) = [48 + ((m % 10 : Nat) : Int)] := bytesOf_nums fun x hx => by rw [List.mem_singleton] at hx; omega
theorem dec_loop (m : Nat) : ∀ (out : ByteArray), m ≤ 1073741824 → out.size + m ≤ 4611686018427387904 →
    Ev (fun k => digit_Dec.l0 k m out) (if m = 0 then out else catS (decB m) out) := by
  induction m using Nat.strongRecOn with
  | _ m ih =>
    intro out h1 h2
    refine Ev.step (fun k => digit_Dec.l0.eq_2 m out k) ?_
    by_cases e : m = 0
    · rw [if_pos e]; exact Ev.nn (by omega) (Ev.now _)
    · rw [if_neg e]
      refine Ev.ip (by omega) (Ev.cb rfl ?_)
      rw [dec_digit (by omega) (by omega), dec_next (by omega) (by omega), Int.toNat_natCast]
      refine Ev.ip (by rw [size_nums]; simp only [List.length_cons, List.length_nil]; omega) ?_
      have key := ih (m / 10) (by omega) (catS (strOfNums [48 + ((m % 10 : Nat) : Int)]) out) (by omega) (by rw [size_cat, size_nums]; simp only [List.length_cons, List.length_nil]; omega)
      refine Ev.eq ?_ key
      apply bytesOf_inj
      by_cases h : m < 10
      · rw [if_pos (by omega), bytesOf_cat, bytesOf_cat, bytesOf_dec, decL_lt h, one_dec, Nat.mod_eq_of_lt h]
      · rw [if_neg (by omega)]
        simp only [bytesOf_cat, bytesOf_dec]
        rw [decL_ge h, one_dec, List.append_assoc]
theorem dec_ev {n : Int} (h0 : 0 ≤ n) (h1 : n ≤ 1073741824) : Ev (fun k => digit_Dec.f k n) (decB n.toNat) := by
  unfold digit_Dec.f
  refine Ev.cb (may_yes h0 h1) (Ev.ip rfl ?_)
  rw [dec_digit h0 h1, dec_next h0 h1]
  have key := dec_loop (n.toNat / 10) (strOfNums [48 + ((n.toNat % 10 : Nat) : Int)]) (by omega) (by rw [size_nums]; simp only [List.length_cons, List.length_nil]; omega)
  refine Ev.eq ?_ key
  apply bytesOf_inj
  by_cases h : n.toNat < 10
  · rw [if_pos (by omega), bytesOf_dec, decL_lt h, one_dec, Nat.mod_eq_of_lt h]
  · rw [if_neg (by omega)]
    simp only [bytesOf_cat, bytesOf_dec]
    rw [decL_ge h, one_dec]
theorem dec_no {n : Int} (h : n < 0 ∨ 1073741824 < n) : Ev (fun k => digit_Dec.f k n) ⟨#[]⟩ := by
  unfold digit_Dec.f
  exact Ev.cb (may_no h) (Ev.nn (by decide) (Ev.now _))
/-- Are these decimals of a number that may be, without a nought ahead? -/
def isDec (l : List Int) : Prop := l ≠ [] ∧ (∀ c ∈ l, 48 ≤ c ∧ c ≤ 57) ∧ dvals l 0 ≤ 1073741824 ∧ (l.head? = some 48 → l.length = 1)
theorem isDec_dec {n : Nat} (h : n ≤ 1073741824) : isDec (decL n) := by
  refine ⟨fun e => ?_, decL_mem n, by rw [dvals_dec]; omega, fun e => ?_⟩
  · have := (decL_len n).1; rw [e] at this; simp at this
  · by_cases h0 : n = 0
    · rw [h0, decL_lt (by omega)]; rfl
    · exact absurd e (decL_head n (by omega))
theorem dvals_mono (l : List Int) : ∀ n m, n ≤ m → dvals l n ≤ dvals l m := by
  induction l with
  | nil => intro n m h; exact h
  | cons c l ih => intro n m h; exact ih _ _ (by omega)
theorem dvals_ge (l : List Int) : ∀ n, 0 ≤ n → (∀ c ∈ l, 48 ≤ c ∧ c ≤ 57) → n ≤ dvals l n := by
  induction l with
  | nil => intro n _ _; exact Int.le_refl _
  | cons c l ih =>
    intro n h0 h
    have hc := h c (List.mem_cons_self ..)
    have := ih (n * 10 + (c - 48)) (by omega) (fun x hx => h x (List.mem_cons_of_mem _ hx))
    unfold dvals
    omega
theorem dec_unique (l : List Int) : ∀ (a : Int), (∀ c ∈ l, 48 ≤ c ∧ c ≤ 57) → 0 < a → decL (dvals l a).toNat = decL a.toNat ++ l := by
  induction l with
  | nil => intro a _ _; simp [dvals]
  | cons c l ih =>
    intro a h h0
    have hc := h c (List.mem_cons_self ..)
    unfold dvals
    rw [ih (a * 10 + (c - 48)) (fun x hx => h x (List.mem_cons_of_mem _ hx)) (by omega)]
    have e : (a * 10 + (c - 48)).toNat / 10 = a.toNat := by omega
    rw [decL_ge (by omega), e, List.append_assoc]
    congr 1
    show [_] ++ l = c :: l
    rw [List.singleton_append]
    congr 1
    omega
/-- Decimals without a nought ahead are the decimals of what they say. -/
theorem dec_back {l : List Int} (h1 : l ≠ []) (h2 : ∀ c ∈ l, 48 ≤ c ∧ c ≤ 57) (h3 : l.head? = some 48 → l.length = 1) : decL (dvals l 0).toNat = l := by
  cases l with
  | nil => exact absurd rfl h1
  | cons c l =>
    have hc := h2 c (List.mem_cons_self ..)
    by_cases e : c = 48
    · subst e
      have := h3 rfl
      have : l = [] := List.eq_nil_of_length_eq_zero (by simpa using this)
      subst this
      simp [dvals, decL_lt]
    · unfold dvals
      rw [dec_unique l _ (fun x hx => h2 x (List.mem_cons_of_mem _ hx)) (by omega), decL_lt (by omega)]
      rw [List.singleton_append]
      congr 1
      omega
theorem isDec_back {l : List Int} (h : isDec l) : decL (dvals l 0).toNat = l := dec_back h.1 h.2.1 h.2.2.2
/-- What ReadDec answers. -/
def rdDec (l : List Int) : Option Nat := if l ≠ [] ∧ (∀ c ∈ l, 48 ≤ c ∧ c ≤ 57) ∧ dvals l 0 ≤ 1073741824 ∧ (l.head? = some 48 → l.length = 1) then some (dvals l 0).toNat else none
theorem rdDec_dec {n : Nat} (h : n ≤ 1073741824) : rdDec (decL n) = some n := by
  unfold rdDec
  have := isDec_dec h
  unfold isDec at this
  rw [if_pos this, dvals_dec]
  simp
def rdDecR (l : List Int) : Int × Bool := match rdDec l with
  | none => (0, false)
  | some n => (n, true)
end Go.Proofs.Ytldbhkhblkgnnaa.B
