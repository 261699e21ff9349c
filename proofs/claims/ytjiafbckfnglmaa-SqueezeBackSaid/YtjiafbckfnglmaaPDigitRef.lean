/- Plain laws of the printed references of package digit: they answer as the package does. -/
import Derived.Test.YtjiafbckfnglmaaPDigit
import Derived.Test.YtjiafbckfnglmaaQx3
namespace Go.Proofs.Ytjiafbckfnglmaa.B
open Go.RowKit Go.Proofs.Ytjiafbckfnglmaa.PW Go.Proofs.Ytjiafbckfnglmaa.Given Go.Proofs.Ytjiafbckfnglmaa.Q Go.Proofs.YtjiafbckfnglmaaW.PrintWords Go.Proofs.YtjiafbckfnglmaaW.PrintMore
/-- The reference's Read's end. -/
def rfin (z : Prop) [Decidable z] (a : Nat) (n : Int) (i : Nat) : Int × Int := if i = a then (0, -1) else if i > a + 1 ∧ z then (0, -1) else (n, i)
/-- The reference's Read's loop. -/
def rrGo (z : Prop) [Decidable z] (a : Nat) : List Int → Int → Nat → Int × Int
  | [], n, i => rfin z a n i
  | c :: l, n, i => if 0 ≤ val c then (if n * 64 + val c > 1073741824 then (0, -1) else rrGo z a l (n * 64 + val c) (i + 1)) else rfin z a n i
theorem rrGo_closed (z : Prop) [Decidable z] (a : Nat) (l : List Int) : ∀ (n : Int) (i : Nat), a ≤ i → 0 ≤ n → n ≤ 1073741824 →
    rrGo z a l n i = if (i = a ∧ digs l = []) ∨ vals (digs l) n > 1073741824 ∨ (i + (digs l).length > a + 1 ∧ z) then (0, -1) else (vals (digs l) n, ((i + (digs l).length : Nat) : Int)) := by
  induction l with
  | nil =>
    intro n i h1 h2 h3
    have hd : digs [] = [] := rfl
    rw [hd]
    unfold rrGo rfin
    by_cases e : i = a
    · rw [if_pos e, if_pos (Or.inl ⟨e, rfl⟩)]
    · rw [if_neg e]
      by_cases g : i > a + 1 ∧ z
      · rw [if_pos g, if_pos (Or.inr (Or.inr (by simpa using g)))]
      · rw [if_neg g, if_neg]
        · rfl
        · rintro (h | h | h)
          · exact e h.1
          · unfold vals at h; omega
          · exact g (by simpa using h)
  | cons c l ih =>
    intro n i h1 h2 h3
    unfold rrGo
    by_cases h : 0 ≤ val c
    · rw [if_pos h, digs_yes l h]
      have hv : vals (c :: digs l) n = vals (digs l) (n * 64 + val c) := rfl
      rw [hv]
      by_cases g : n * 64 + val c > 1073741824
      · rw [if_pos g, if_pos]
        have := vals_le (digs l) (n * 64 + val c) (by omega) (digs_all l)
        exact Or.inr (Or.inl (by omega))
      · rw [if_neg g, ih (n * 64 + val c) (i + 1) (by omega) (by omega) (by omega)]
        have e : ((i + 1 = a ∧ digs l = []) ∨ vals (digs l) (n * 64 + val c) > 1073741824 ∨ (i + 1 + (digs l).length > a + 1 ∧ z)) ↔ ((i = a ∧ c :: digs l = []) ∨ vals (digs l) (n * 64 + val c) > 1073741824 ∨ (i + (c :: digs l).length > a + 1 ∧ z)) := by
          simp only [List.length_cons, reduceCtorEq, and_false, false_or]
          constructor
          · rintro (h | h | h)
            · omega
            · exact Or.inl h
            · exact Or.inr ⟨by omega, h.2⟩
          · rintro (h | h)
            · exact Or.inr (Or.inl h)
            · exact Or.inr (Or.inr ⟨by omega, h.2⟩)
        by_cases d : ((i = a ∧ c :: digs l = []) ∨ vals (digs l) (n * 64 + val c) > 1073741824 ∨ (i + (c :: digs l).length > a + 1 ∧ z))
        · rw [if_pos d, if_pos (e.2 d)]
        · rw [if_neg d, if_neg (fun x => d (e.1 x))]
          simp only [List.length_cons, Prod.mk.injEq, true_and]
          omega
    · rw [if_neg h, digs_no l h]
      unfold rfin
      by_cases e : i = a
      · rw [if_pos e, if_pos (Or.inl ⟨e, rfl⟩)]
      · rw [if_neg e]
        by_cases g : i > a + 1 ∧ z
        · rw [if_pos g, if_pos (Or.inr (Or.inr (by simpa using g)))]
        · rw [if_neg g, if_neg]
          · rfl
          · rintro (h | h | h)
            · exact e h.1
            · unfold vals at h; omega
            · exact g (by simpa using h)
/-- The reference's Read's answer. -/
def rrdR (s : ByteArray) (a : Nat) : Int × Int := match rdS ((bytesOf s).drop a) with
  | none => (0, -1)
  | some (v, n) => (v, ((a + n : Nat) : Int))
/-! ### Put, Dec -/
theorem one_dig (m : Nat) : bytesOf (strOfNums [dig (m % 64)]) = [dig (m % 64)] := bytesOf_nums fun x hx => by
  have d := dig_range (d := m % 64) (by omega)
  rw [List.mem_singleton.1 hx]
  exact ⟨d.2.1, d.2.2.1⟩
/-! ### ReadDec -/
def rrdDec (l : List Int) : Int := match rdDec l with
  | none => -1
  | some n => n
theorem rrdec_loop (s : ByteArray) (hs : s.size ≤ 4611686018427387904) (l : List Int) : ∀ (n : Int) (i : Nat), (bytesOf s).drop i = l → i ≤ s.size → 0 ≤ n → n ≤ 1073741824 →
    (∀ c ∈ (bytesOf s).take i, 48 ≤ c ∧ c ≤ 57) → dvals ((bytesOf s).take i) 0 = n → Ev (fun k => ammoniteref1_ReadDec.l0 k s n i) (rrdDec (bytesOf s)) := by
  induction l with
  | nil =>
    intro n i hl h2 h3 h4 ht hn
    have hi : i = s.size := by
      have := congrArg List.length hl
      rw [List.length_drop, size_len, List.length_nil] at this
      omega
    have htk : (bytesOf s).take i = bytesOf s := List.take_of_length_le (by rw [size_len]; omega)
    rw [htk] at ht hn
    refine Ev.step (fun k => ammoniteref1_ReadDec.l0.eq_2 s n i k) ?_
    refine Ev.nn (by omega) ?_
    by_cases e : s.size = 0
    · refine Ev.ip (by omega) (Ev.eq ?_ (Ev.now _))
      have : bytesOf s = [] := List.eq_nil_of_length_eq_zero (by rw [size_len]; exact e)
      unfold rrdDec rdDec
      rw [if_neg (fun h => h.1 this)]
    · have hne : bytesOf s ≠ [] := fun x => e (by rw [← size_len, x]; rfl)
      refine Ev.nn (by omega) ?_
      have hz : (bytesOf s).head? = some 48 ↔ bt s 0 = 48 := by
        have := drop_cons s 0 (by omega)
        rw [List.drop_zero] at this
        rw [this]; simp
      have good : (bt s 0 = 48 → s.size = 1) → rrdDec (bytesOf s) = n := by
        intro h
        unfold rrdDec rdDec
        rw [if_pos ⟨hne, ht, by omega, fun x => by rw [size_len]; exact h (hz.1 x)⟩, hn]
        show ((n.toNat : Nat) : Int) = n
        omega
      by_cases g : s.size > 1
      · refine Ev.ip (by omega) (Ev.ip (by omega) ?_)
        by_cases z : bt s 0 = 48
        · refine Ev.ip z (Ev.eq ?_ (Ev.now _))
          unfold rrdDec rdDec
          rw [if_neg]
          intro h
          have := h.2.2.2 (hz.2 z)
          rw [size_len] at this
          omega
        · exact Ev.nn z (Ev.eq (good (fun x => absurd x z)).symm (Ev.now _))
      · exact Ev.nn (by omega) (Ev.eq (good (fun _ => by omega)).symm (Ev.now _))
  | cons c l ih =>
    intro n i hl h2 h3 h4 ht hn
    have hi : i < s.size := by
      have := congrArg List.length hl
      rw [List.length_drop, size_len, List.length_cons] at this
      omega
    have htk : (bytesOf s).take (i + 1) = (bytesOf s).take i ++ [c] := by
      have hlen : i < (bytesOf s).length := by rw [size_len]; exact hi
      rw [List.take_succ_eq_append_getElem hlen]
      congr 2
      have := List.drop_eq_getElem_cons hlen
      rw [hl] at this
      injection this with e _
      exact e.symm
    have hmem : c ∈ bytesOf s := List.mem_of_mem_drop (hl ▸ List.mem_cons_self ..)
    have hdrop : (bytesOf s).drop i = c :: l := hl
    rw [drop_cons s i hi] at hl
    injection hl with hc hl
    have hb := bt_range s i
    have fail : ¬ (48 ≤ c ∧ c ≤ 57) → rrdDec (bytesOf s) = -1 := by
      intro h
      unfold rrdDec rdDec
      rw [if_neg]
      intro g
      exact h (g.2.1 c hmem)
    refine Ev.step (fun k => ammoniteref1_ReadDec.l0.eq_2 s n i k) ?_
    refine Ev.ip (by omega) (Ev.ip (by omega) ?_)
    rw [hc]
    by_cases a : c < 48
    · refine Ev.ip a (Ev.step (fun k => ammoniteref1_ReadDec.j1.eq_2 s n i true k) ?_)
      exact Ev.ip rfl (Ev.eq (fail (by omega)).symm (Ev.now _))
    · refine Ev.nn a (Ev.step (fun k => ammoniteref1_ReadDec.j1.eq_2 s n i _ k) ?_)
      by_cases b : c > 57
      · exact Ev.ip (decide_eq_true b) (Ev.eq (fail (by omega)).symm (Ev.now _))
      · have e0 : decide (c > 57) = false := decide_eq_false b
        rw [e0]
        refine Ev.nn (by decide) (Ev.ip (by omega) (Ev.ip (by omega) ?_))
        rw [hc]
        have e1 : wrap64 (wrap64 (n * 10) + (c - 48) % 256) = n * 10 + (c - 48) := by
          rw [w64 (n := n * 10) (by omega) (by omega), w64 (by omega) (by omega)]; omega
        have e2 : wrap64 ((i : Int) + 1) = ((i + 1 : Nat) : Int) := by rw [w64 (by omega) (by omega)]; omega
        rw [e1, e2]
        by_cases g : n * 10 + (c - 48) > 1073741824
        · refine Ev.ip g (Ev.eq ?_ (Ev.now _))
          unfold rrdDec rdDec
          rw [if_neg]
          intro h
          have h1 := h.2.2.1
          have : dvals (bytesOf s) 0 = dvals l (n * 10 + (c - 48)) := by
            conv => lhs; rw [← List.take_append_drop i (bytesOf s)]
            rw [dvals_app, hn, hdrop]
            rfl
          have h5 := dvals_ge l (n * 10 + (c - 48)) (by omega) (fun x hx => h.2.1 x (List.mem_of_mem_drop (hdrop ▸ List.mem_cons_of_mem _ hx)))
          omega
        · refine Ev.nn g ?_
          refine ih (n * 10 + (c - 48)) (i + 1) hl (by omega) (by omega) (by omega) ?_ ?_
          · rw [htk]
            intro x hx
            rcases List.mem_append.1 hx with hx | hx
            · exact ht x hx
            · rw [List.mem_singleton] at hx; omega
          · rw [htk, dvals_app, hn]; rfl
theorem rreadDec_ev (s : ByteArray) (hs : s.size ≤ 4611686018427387904) : Ev (fun k => ammoniteref1_ReadDec.f k s) (rrdDec (bytesOf s)) :=
  rrdec_loop s hs (bytesOf s) 0 0 rfl (by omega) (by omega) (by omega) (by simp) rfl
end Go.Proofs.Ytjiafbckfnglmaa.B
