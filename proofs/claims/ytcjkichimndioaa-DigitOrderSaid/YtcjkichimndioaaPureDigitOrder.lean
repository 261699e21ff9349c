/- Greater numbers have longer texts, or, of one length, later digits; as many digits as sixes of bits; their decimals likewise. For every two numbers. No condition. -/
import Derived.Test.YtcjkichimndioaaPDigitOrd
import Derived.Test.YtcjkichimndioaaQx5
import Derived.Test.YtcjkichimndioaaPRuns
namespace Go.Proofs.Ytcjkichimndioaa.Pure
open Go.RowKit Go.Proofs.Ytcjkichimndioaa.B Go.Proofs.Ytcjkichimndioaa.PW Go.Proofs.Ytcjkichimndioaa.Given Go.Proofs.Ytcjkichimndioaa.Q Go.Proofs.YtcjkichimndioaaW.PrintWords Go.Proofs.YtcjkichimndioaaW.PrintMore
theorem wsucc' {i : Nat} (h : i ≤ 1000000) : wrap64 ((i : Int) + 1) = ((i + 1 : Nat) : Int) := by rw [w64 (by omega) (by omega)]; omega
/-- What follows once the digits' order is known. -/
theorem order_end (a b : Nat) (ha : a ≤ 1073741824) (hb : b ≤ 1073741824) (L : Bool) (hL : a = b ∨ L = decide ((a : Int) < (b : Int))) :
    Ev (fun k => (digit_Dec.f k (a : Int)).bind fun t => ((digit_Dec.f k (b : Int)).bind fun u => (if ((putB a).size : Int) = ((putB a).size : Int) then (if (a : Int) = (b : Int) then ((ammonitelaw2_DigitRuns.f k).bind fun r => (some r)) else (if (L == (decide ((a : Int) < (b : Int)))) = true then (if (t.size : Int) < (u.size : Int) then (if (true == (decide ((a : Int) < (b : Int)))) = true then ((ammonitelaw2_DigitRuns.f k).bind fun r => (some r)) else (some false)) else (if (t.size : Int) = (u.size : Int) then (if ((Op.bytesLess t.toList u.toList) == (decide ((a : Int) < (b : Int)))) = true then ((ammonitelaw2_DigitRuns.f k).bind fun r => (some r)) else (some false)) else (if (false == (decide ((a : Int) < (b : Int)))) = true then ((ammonitelaw2_DigitRuns.f k).bind fun r => (some r)) else (some false)))) else (some false))) else (some false)))) true := by
  have d1 := dec_ev (n := (a : Int)) (by omega) (by omega)
  have d2 := dec_ev (n := (b : Int)) (by omega) (by omega)
  rw [Int.toNat_natCast] at d1 d2
  refine Ev.bind d1 (Ev.bind d2 (Ev.ip rfl ?_))
  have fin : Ev (fun k => (ammonitelaw2_DigitRuns.f k).bind fun r => (some r)) true := Ev.bind druns (Ev.now _)
  by_cases e : a = b
  · exact Ev.ip (by omega) fin
  · refine Ev.nn (by omega) ?_
    have hL' : L = decide ((a : Int) < (b : Int)) := hL.resolve_left e
    refine Ev.ip (by rw [hL']; simp) ?_
    rw [size_dec, size_dec]
    by_cases g : (decL a).length < (decL b).length
    · refine Ev.ip (by omega) (Ev.ip ?_ fin)
      have : a < b := by
        by_cases q : a < b
        · exact q
        · have := decL_mono (a := b) (b := a) (by omega); omega
      rw [decide_eq_true (by omega : (a : Int) < (b : Int))]
      rfl
    · refine Ev.nn (by omega) ?_
      by_cases h : (decL a).length = (decL b).length
      · refine Ev.ip (by omega) (Ev.ip ?_ fin)
        rw [decB_less (by rw [size_dec, size_dec]; exact h)]
        have : decide (a < b) = decide ((a : Int) < (b : Int)) := decide_eq_decide.2 (by omega)
        rw [this]
        simp
      · refine Ev.nn (by omega) (Ev.ip ?_ fin)
        have : ¬ (a < b) := by
          intro q
          have := decL_mono (a := a) (b := b) (by omega)
          omega
        rw [decide_eq_false (by omega : ¬ (a : Int) < (b : Int))]
        rfl
theorem get_put (a i : Nat) (h : i < (putL a).length) : ∃ l, putL a = (putL a).take i ++ bt (putB a) i :: l ∧ l.length = (putL a).length - i - 1 := by
  refine ⟨(putL a).drop (i + 1), ?_, by rw [List.length_drop]; omega⟩
  have := drop_cons (putB a) i (by rw [size_put]; exact h)
  rw [bytesOf_put] at this
  rw [← this, List.take_append_drop]
theorem one_read (a i : Nat) (h : i < (putL a).length) : Ev (fun k => digit_Read.f k (cutS (putB a) (i : Int).toNat ((i + 1 : Nat) : Int).toNat) 0) (val (bt (putB a) i), 1, true) := by
  rw [Int.toNat_natCast, Int.toNat_natCast]
  have sz := size_put a
  have z : (cutS (putB a) i (i + 1)).size = 1 := by rw [size_cut (by omega)]; omega
  have r := read_ev (cutS (putB a) i (i + 1)) 0 (by omega)
  have e := rdR_at (cutS (putB a) i (i + 1)) 0 (by omega)
  have b : (bytesOf (cutS (putB a) i (i + 1))).drop 0 = [bt (putB a) i] := by
    rw [List.drop_zero, bytesOf_cut, drop_cons _ _ (by omega)]
    have : i + 1 - i = 1 := by omega
    rw [this]
    rfl
  obtain ⟨l, hl, _⟩ := get_put a i h
  have hm := putL_val a (bt (putB a) i) (by rw [hl]; exact List.mem_append_right _ (List.mem_cons_self ..))
  have d : digs [bt (putB a) i] = [bt (putB a) i] := by rw [digs_yes _ hm.1]; rfl
  have q : rdS [bt (putB a) i] = some (val (bt (putB a) i), 1) := by
    unfold rdS
    rw [d, if_neg]
    · simp [vals]
    · rintro (x | x | x)
      · simp at x
      · simp only [vals] at x; omega
      · simp at x
  rw [b, q] at e
  have e' : rdR (cutS (putB a) i (i + 1)) 0 = (val (bt (putB a) i), 1, true) := e
  rw [e'] at r
  exact r
theorem order_loop (a b : Nat) (ha : a ≤ 1073741824) (hb : b ≤ 1073741824) (hs : (putL a).length = (putL b).length) (L : Bool) (d : Nat) : ∀ i : Nat, i + d = (putL a).length → (putL a).take i = (putL b).take i →
    Ev (fun k => ammonitelaw2_DigitOrder.l1 k a b (putB a) (putB b) (putB a).size L (putB a).size i) true := by
  have l6 := put6 ha
  have sa := size_put a
  have sb := size_put b
  induction d with
  | zero =>
    intro i hi ht
    refine Ev.step (fun k => ammonitelaw2_DigitOrder.l1.eq_2 a b (putB a) (putB b) _ L _ i k) ?_
    refine Ev.nn (by omega) ?_
    have : a = b := by
      apply putL_inj
      rw [List.take_of_length_le (by omega), List.take_of_length_le (by omega)] at ht
      exact ht
    exact order_end a b ha hb L (Or.inl this)
  | succ d ih =>
    intro i hi ht
    refine Ev.step (fun k => ammonitelaw2_DigitOrder.l1.eq_2 a b (putB a) (putB b) _ L _ i k) ?_
    refine Ev.ip (by omega) (Ev.ip (by omega) (Ev.ip (by omega) (Ev.ip (by omega) ?_)))
    obtain ⟨l, hl, hll⟩ := get_put a i (by omega)
    obtain ⟨m, hm, hmm⟩ := get_put b i (by omega)
    rw [wsucc' (by omega)]
    by_cases e : bt (putB a) i = bt (putB b) i
    · refine Ev.ip e (ih (i + 1) (by omega) ?_)
      have ta : ∀ n, i < (putL n).length → (putL n).take (i + 1) = (putL n).take i ++ [bt (putB n) i] := by
        intro n hn
        obtain ⟨r, hr, _⟩ := get_put n i hn
        have ln : ((putL n).take i).length = i := by rw [List.length_take]; omega
        conv => lhs; rw [hr]
        have : i + 1 = ((putL n).take i).length + 1 := by omega
        rw [this, List.take_length_add_append]
        rfl
      rw [ta a (by omega), ta b (by omega), ht, e]
    · refine Ev.nn e (Ev.ip (by omega) (Ev.ip (by omega) (Ev.bind (one_read a i (by omega)) (Ev.ip (by omega) (Ev.bind (one_read b i (by omega)) ?_)))))
      have va := putL_val a (bt (putB a) i) (by rw [hl]; exact List.mem_append_right _ (List.mem_cons_self ..))
      have ra := bt_range (putB a) i
      have rb := bt_range (putB b) i
      have ne : val (bt (putB a) i) ≠ val (bt (putB b) i) := fun q => e (val_inj ⟨ra.1, by omega⟩ ⟨rb.1, by omega⟩ va.1 q)
      rw [ht] at hl
      refine order_end a b ha hb (decide (val (bt (putB a) i) < val (bt (putB b) i))) (Or.inr (decide_eq_decide.2 ?_))
      constructor
      · intro q
        have := put_order hl hm (by omega) q
        omega
      · intro q
        by_cases g : val (bt (putB a) i) < val (bt (putB b) i)
        · exact g
        · have := put_order hm hl (by omega) (by omega)
          omega
theorem shift (a m : Nat) (hm : m ≤ 10) : shr .i64 (a : Int) (6 * (m : Int)) = ((a / 64 ^ m : Nat) : Int) := by
  unfold shr
  have e : min (6 * (m : Int)).toNat IntKind.i64.bits = 6 * m := by
    have : IntKind.i64.bits = 64 := rfl
    rw [this]
    omega
  rw [e]
  have p : (2 : Int) ^ (6 * m) = ((64 ^ m : Nat) : Int) := by
    rw [Int.pow_mul]
    norm_cast
  rw [p]
  norm_cast
theorem bits_loop (a b : Nat) (ha : a ≤ 1073741824) (hb : b ≤ 1073741824) (d : Nat) : ∀ m : Nat, 1 ≤ m → m + d = (putL a).length →
    Ev (fun k => ammonitelaw2_DigitOrder.l0 k a b (putB a) (putB b) m) true := by
  have l6 := put6 ha
  have sa := size_put a
  have sb := size_put b
  induction d with
  | zero =>
    intro m h1 hm
    refine Ev.step (fun k => ammonitelaw2_DigitOrder.l0.eq_2 a b (putB a) (putB b) m k) ?_
    have lt := (putL_long a m h1).1 (by omega)
    have q : IntKind.u64.wrap (wrap64 (6 * (m : Int))) = 6 * (m : Int) := by
      rw [w64 (by omega) (by omega)]
      simp only [IntKind.wrap, IntKind.bits, IntKind.signed]
      simp
      omega
    rw [q, shift a m (by omega), Nat.div_eq_of_lt lt]
    clear q
    refine Ev.ip (by omega) (Ev.nn (by omega) ?_)
    have em : (m : Int) = ((putB a).size : Int) := by omega
    rw [em]
    by_cases e : (putL a).length = (putL b).length
    · refine Ev.ip (by omega) ?_
      exact order_loop a b ha hb e _ (putL a).length 0 (by omega) (by simp)
    · refine Ev.nn (by omega) ?_
      refine order_end a b ha hb (decide (((putB a).size : Int) < ((putB b).size : Int))) (Or.inr (decide_eq_decide.2 ?_))
      constructor
      · intro q
        by_cases g : a < b
        · omega
        · have := putL_mono (a := b) (b := a) (by omega)
          omega
      · intro q
        have := putL_mono (a := a) (b := b) (by omega)
        omega
  | succ d ih =>
    intro m h1 hm
    refine Ev.step (fun k => ammonitelaw2_DigitOrder.l0.eq_2 a b (putB a) (putB b) m k) ?_
    have ge : ¬ a < 64 ^ m := fun q => by
      have := (putL_long a m h1).2 q
      omega
    have q : IntKind.u64.wrap (wrap64 (6 * (m : Int))) = 6 * (m : Int) := by
      rw [w64 (by omega) (by omega)]
      simp only [IntKind.wrap, IntKind.bits, IntKind.signed]
      simp
      omega
    rw [q, shift a m (by omega), wsucc' (by omega)]
    clear q
    have pos : 0 < a / 64 ^ m := Nat.div_pos (by omega) (Nat.pow_pos (by omega))
    refine Ev.ip (by omega) (Ev.ip (by omega) (ih (m + 1) (by omega) (by omega)))
theorem DigitOrder : ammonitelaw2_DigitOrder.Pure := by
  intro a0 a1 _ _
  refine Ev.rounds (g := fun k => ammonitelaw2_DigitOrder.f k a0 a1) ?_
  unfold ammonitelaw2_DigitOrder.f
  obtain ⟨a, ha, ha0, ha1⟩ := within_ev a0 (lo := 0) (hi := 1073741824) (by omega) (by omega) (by omega)
  obtain ⟨b, hb, hb0, hb1⟩ := within_ev a1 (lo := 0) (hi := 1073741824) (by omega) (by omega) (by omega)
  obtain ⟨n, rfl⟩ : ∃ n : Nat, a = n := ⟨a.toNat, by omega⟩
  obtain ⟨m, rfl⟩ : ∃ m : Nat, b = m := ⟨b.toNat, by omega⟩
  have p1 := put_ev ha0 ha1
  have p2 := put_ev hb0 hb1
  rw [Int.toNat_natCast] at p1 p2
  refine Ev.cb ha (Ev.cb hb (Ev.bind p1 (Ev.bind p2 ?_)))
  have l1 := (putL_len n).1
  exact bits_loop n m (by omega) (by omega) ((putL n).length - 1) 1 (by omega) (by omega)
end Go.Proofs.Ytcjkichimndioaa.Pure
