/- Plain laws of the printed references of package digit: they answer as the package does. -/
import Derived.Test.YtcjkichimndioabPDigit
import Derived.Test.YtcjkichimndioabQx3
import Derived.Test.YtcjkichimndioabQx3
namespace Go.Proofs.Ytcjkichimndioab.B
open Go.RowKit Go.Proofs.Ytcjkichimndioab.PW Go.Proofs.Ytcjkichimndioab.Given Go.Proofs.Ytcjkichimndioab.Q Go.Proofs.YtcjkichimndioabW.PrintWords Go.Proofs.YtcjkichimndioabW.PrintMore
theorem rdigit_all : ∀ c : Fin 256, ammoniteref1_digit.f 70 (c.val : Int) = some (val (c.val : Int)) := by decide +kernel
theorem rdigit_ev {c : Int} (h0 : 0 ≤ c) (h1 : c < 256) : Ev (fun k => ammoniteref1_digit.f k c) (val c) := by
  have := rdigit_all ⟨c.toNat, by omega⟩
  simp only [Int.toNat_of_nonneg h0] at this
  exact Ev.of (fun k => ammoniteref1_digit.mono c k) this
/-- The reference's Read's end. -/
def rfin (z : Prop) [Decidable z] (a : Nat) (n : Int) (i : Nat) : Int × Int := if i = a then (0, -1) else if i > a + 1 ∧ z then (0, -1) else (n, i)
/-- The reference's Read's loop. -/
def rrGo (z : Prop) [Decidable z] (a : Nat) : List Int → Int → Nat → Int × Int
  | [], n, i => rfin z a n i
  | c :: l, n, i => if 0 ≤ val c then (if n * 64 + val c > 1073741824 then (0, -1) else rrGo z a l (n * 64 + val c) (i + 1)) else rfin z a n i
theorem rfin_ev (s : ByteArray) (a : Nat) (hs : s.size ≤ 4611686018427387904) (n : Int) (i : Nat) (h1 : a ≤ i) (h2 : i ≤ s.size) :
    Ev (fun k => ammoniteref1_Read.j1 k s a n i false) (rfin (bt s a = 48) a n i) := by
  refine Ev.step (fun k => ammoniteref1_Read.j1.eq_2 s a n i false k) ?_
  refine Ev.nn (by decide) ?_
  unfold rfin
  by_cases e : i = a
  · rw [if_pos e]; exact Ev.ip (by omega) (Ev.now _)
  · rw [if_neg e]
    refine Ev.nn (by omega) ?_
    rw [w64 (by omega) (by omega)]
    by_cases g : i > a + 1
    · refine Ev.ip (by omega) (Ev.ip (by omega) (Ev.ip (by omega) ?_))
      by_cases z : bt s a = 48
      · exact Ev.eq (if_pos ⟨g, z⟩).symm (Ev.ip z (Ev.now _))
      · exact Ev.eq (if_neg (fun x => z x.2)).symm (Ev.nn z (Ev.now _))
    · exact Ev.eq (if_neg (fun x => g x.1)).symm (Ev.nn (by omega) (Ev.now _))
theorem rread_loop (s : ByteArray) (a : Nat) (hs : s.size ≤ 4611686018427387904) (l : List Int) : ∀ (n : Int) (i : Nat), (bytesOf s).drop i = l → a ≤ i → i ≤ s.size → 0 ≤ n → n ≤ 1073741824 →
    Ev (fun k => ammoniteref1_Read.l0 k s a n i) (rrGo (bt s a = 48) a l n i) := by
  induction l with
  | nil =>
    intro n i hl h1 h2 h3 h4
    have hi : i = s.size := by
      have := congrArg List.length hl
      rw [List.length_drop, size_len, List.length_nil] at this
      omega
    refine Ev.step (fun k => ammoniteref1_Read.l0.eq_2 s a n i k) ?_
    refine Ev.nn (by omega) ?_
    exact rfin_ev s a hs n i h1 h2
  | cons c l ih =>
    intro n i hl h1 h2 h3 h4
    have hi : i < s.size := by
      have := congrArg List.length hl
      rw [List.length_drop, size_len, List.length_cons] at this
      omega
    rw [drop_cons s i hi] at hl
    injection hl with hc hl
    have hb := bt_range s i
    have hv := val_range (c := c) (by omega) (by omega)
    refine Ev.step (fun k => ammoniteref1_Read.l0.eq_2 s a n i k) ?_
    refine Ev.ip (by omega) (Ev.ip (by omega) ?_)
    rw [hc]
    refine Ev.bind (rdigit_ev (by omega) (by omega)) ?_
    unfold rrGo
    by_cases h : 0 ≤ val c
    · rw [if_pos h]
      have e : decide (val c ≥ 0) = true := decide_eq_true h
      rw [e]
      refine Ev.step (fun k => ammoniteref1_Read.j1.eq_2 s a n i true k) ?_
      refine Ev.ip rfl (Ev.ip (by omega) (Ev.ip (by omega) ?_))
      rw [hc]
      refine Ev.bind (rdigit_ev (by omega) (by omega)) ?_
      rw [w64 (n := n * 64) (by omega) (by omega), w64 (n := n * 64 + val c) (by omega) (by omega)]
      by_cases g : n * 64 + val c > 1073741824
      · rw [if_pos g]; exact Ev.ip g (Ev.now _)
      · rw [if_neg g]
        refine Ev.nn g ?_
        rw [w64 (by omega) (by omega)]
        exact ih (n * 64 + val c) (i + 1) hl (by omega) (by omega) (by omega) (by omega)
    · rw [if_neg h]
      have e : decide (val c ≥ 0) = false := decide_eq_false h
      rw [e]
      exact rfin_ev s a hs n i h1 h2
theorem rrGo_closed (z : Prop) [Decidable z] (a : Nat) (l : List Int) : ∀ (n : Int) (i : Nat), a ≤ i → 0 ≤ n → n ≤ 1073741824 →
    rrGo z a l n i = if (i = a ∧ digs l = []) ∨ vals (digs l) n > 1073741824 ∨ (i + (digs l).length > a + 1 ∧ z) then (0, -1) else (vals (digs l) n, ((i + (digs l).length : Nat) : Int)) := by
  induction l with
  | nil =>
    intro n i h1 h2 h3
    have hd : digs [] = [] := rfl
    rw [hd]
    unfold rrGo rfin
    by_cases e : i = a
    · rw [if_pos e, if_pos (Or.inl ⟨e, rfl⟩)]
    · rw [if_neg e]
      by_cases g : i > a + 1 ∧ z
      · rw [if_pos g, if_pos (Or.inr (Or.inr (by simpa using g)))]
      · rw [if_neg g, if_neg]
        · rfl
        · rintro (h | h | h)
          · exact e h.1
          · unfold vals at h; omega
          · exact g (by simpa using h)
  | cons c l ih =>
    intro n i h1 h2 h3
    unfold rrGo
    by_cases h : 0 ≤ val c
    · rw [if_pos h, digs_yes l h]
      have hv : vals (c :: digs l) n = vals (digs l) (n * 64 + val c) := rfl
      rw [hv]
      by_cases g : n * 64 + val c > 1073741824
      · rw [if_pos g, if_pos]
        have := vals_le (digs l) (n * 64 + val c) (by omega) (digs_all l)
        exact Or.inr (Or.inl (by omega))
      · rw [if_neg g, ih (n * 64 + val c) (i + 1) (by omega) (by omega) (by omega)]
        have e : ((i + 1 = a ∧ digs l = []) ∨ vals (digs l) (n * 64 + val c) > 1073741824 ∨ (i + 1 + (digs l).length > a + 1 ∧ z)) ↔ ((i = a ∧ c :: digs l = []) ∨ vals (digs l) (n * 64 + val c) > 1073741824 ∨ (i + (c :: digs l).length > a + 1 ∧ z)) := by
          simp only [List.length_cons, reduceCtorEq, and_false, false_or]
          constructor
          · rintro (h | h | h)
            · omega
            · exact Or.inl h
            · exact Or.inr ⟨by omega, h.2⟩
          · rintro (h | h)
            · exact Or.inr (Or.inl h)
            · exact Or.inr (Or.inr ⟨by omega, h.2⟩)
        by_cases d : ((i = a ∧ c :: digs l = []) ∨ vals (digs l) (n * 64 + val c) > 1073741824 ∨ (i + (c :: digs l).length > a + 1 ∧ z))
        · rw [if_pos d, if_pos (e.2 d)]
        · rw [if_neg d, if_neg (fun x => d (e.1 x))]
          simp only [List.length_cons, Prod.mk.injEq, true_and]
          omega
    · rw [if_neg h, digs_no l h]
      unfold rfin
      by_cases e : i = a
      · rw [if_pos e, if_pos (Or.inl ⟨e, rfl⟩)]
      · rw [if_neg e]
        by_cases g : i > a + 1 ∧ z
        · rw [if_pos g, if_pos (Or.inr (Or.inr (by simpa using g)))]
        · rw [if_neg g, if_neg]
          · rfl
          · rintro (h | h | h)
            · exact e h.1
            · unfold vals at h; omega
            · exact g (by simpa using h)
/-- The reference's Read's answer. -/
def rrdR (s : ByteArray) (a : Nat) : Int × Int := match rdS ((bytesOf s).drop a) with
  | none => (0, -1)
  | some (v, n) => (v, ((a + n : Nat) : Int))
theorem rread_ev (s : ByteArray) (a : Nat) (hs : s.size ≤ 4611686018427387904) (ha : a ≤ s.size) : Ev (fun k => ammoniteref1_Read.f k s a) (rrdR s a) := by
  unfold rrdR ammoniteref1_Read.f
  have key := rread_loop s a hs ((bytesOf s).drop a) 0 a rfl (Nat.le_refl _) ha (by omega) (by omega)
  rw [rrGo_closed _ _ _ _ _ (Nat.le_refl _) (by omega) (by omega)] at key
  refine Ev.eq ?_ key
  unfold rdS
  by_cases hz : a < s.size
  · have hz : ((bytesOf s).drop a).head? = some 48 ↔ bt s a = 48 := by rw [drop_cons s a hz]; simp
    simp only [hz]
    by_cases d : digs ((bytesOf s).drop a) = [] ∨ vals (digs ((bytesOf s).drop a)) 0 > 1073741824 ∨ (bt s a = 48 ∧ 2 ≤ (digs ((bytesOf s).drop a)).length)
    · rw [if_pos d, if_pos]
      rcases d with d | d | d
      · exact Or.inl ⟨trivial, d⟩
      · exact Or.inr (Or.inl d)
      · exact Or.inr (Or.inr ⟨by omega, d.1⟩)
    · rw [if_neg d, if_neg]
      rintro (h | h | h)
      · exact d (Or.inl h.2)
      · exact d (Or.inr (Or.inl h))
      · exact d (Or.inr (Or.inr ⟨h.2, by omega⟩))
  · have : (bytesOf s).drop a = [] := drop_nil s a (by omega)
    rw [this, if_pos (Or.inl ⟨rfl, rfl⟩)]
    rfl
/-! ### Put, Dec -/
theorem one_dig (m : Nat) : bytesOf (strOfNums [dig (m % 64)]) = [dig (m % 64)] := bytesOf_nums fun x hx => by
  have d := dig_range (d := m % 64) (by omega)
  rw [List.mem_singleton.1 hx]
  exact ⟨d.2.1, d.2.2.1⟩
/-! ### ReadDec -/
def rrdDec (l : List Int) : Int := match rdDec l with
  | none => -1
  | some n => n
end Go.Proofs.Ytcjkichimndioab.B
