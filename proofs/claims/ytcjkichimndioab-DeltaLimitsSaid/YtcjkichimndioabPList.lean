/- Deltas on lists: what commands say, one behind the other. No program in sight. -/
import Derived.Test.YtcjkichimndioabPApply
namespace Go.Proofs.Ytcjkichimndioab.B
open Go.RowKit Go.Proofs.Ytcjkichimndioab.PW Go.Proofs.Ytcjkichimndioab.Given Go.Proofs.Ytcjkichimndioab.Q Go.Proofs.YtcjkichimndioabW.PrintWords Go.Proofs.YtcjkichimndioabW.PrintMore
theorem copyL_len {rest : List Int} {fr : Int} {r : List Int} (h : copyL rest = some (fr, r)) : r.length < rest.length := by
  unfold copyL at h
  cases g : rdS rest with
  | none => rw [g] at h; simp at h
  | some p =>
    obtain ⟨a, m⟩ := p
    rw [g] at h
    dsimp only at h
    cases e : rest.drop m with
    | nil => rw [e] at h; simp at h
    | cons c t =>
      rw [e] at h
      dsimp only at h
      by_cases q : c = 44
      · rw [if_pos q] at h
        simp only [Option.some.injEq, Prod.mk.injEq] at h
        obtain ⟨_, rfl⟩ := h
        have := congrArg List.length e
        rw [List.length_drop, List.length_cons] at this
        omega
      · rw [if_neg q] at h; simp at h
theorem apL_fuel (src : List Int) (size : Int) (f : Nat) : ∀ (g : Nat) (d o : List Int), d.length < f → d.length < g → apL src size f d o = apL src size g d o := by
  induction f with
  | zero => intro g d o h; omega
  | succ f ih =>
    intro g d o h1 h2
    obtain ⟨g, rfl⟩ : ∃ m, g = m + 1 := ⟨g - 1, by omega⟩
    rw [apL.eq_2, apL.eq_2]
    cases h : rdS d with
    | none => rfl
    | some p =>
      obtain ⟨n, j⟩ := p
      have hj := rdS_some h
      dsimp only
      cases e : d.drop j with
      | nil => rfl
      | cons c rest =>
        have hl := congrArg List.length e
        rw [List.length_drop, List.length_cons] at hl
        dsimp only
        by_cases c0 : c = 59
        · rw [if_pos c0, if_pos c0]
        rw [if_neg c0, if_neg c0]
        by_cases c1 : c = 58
        · rw [if_pos c1, if_pos c1]
          by_cases q : 1 ≤ n ∧ n ≤ size - (o.length : Int) ∧ n ≤ (rest.length : Int)
          · rw [if_pos q, if_pos q]
            exact ih g _ _ (by rw [List.length_drop]; omega) (by rw [List.length_drop]; omega)
          · rw [if_neg q, if_neg q]
        rw [if_neg c1, if_neg c1]
        by_cases c2 : c = 64
        · rw [if_pos c2, if_pos c2]
          cases q : copyL rest with
          | none => rfl
          | some p =>
            obtain ⟨fr, r⟩ := p
            have hr := copyL_len q
            dsimp only
            by_cases z : 1 ≤ n ∧ n ≤ size - (o.length : Int) ∧ fr ≤ (src.length : Int) ∧ n ≤ (src.length : Int) - fr
            · rw [if_pos z, if_pos z]
              exact ih g _ _ (by omega) (by omega)
            · rw [if_neg z, if_neg z]
        · rw [if_neg c2, if_neg c2]
/-- The commands' answer, with rounds enough. -/
def AP (src : List Int) (size : Int) (d o : List Int) : Option (List Int) := apL src size (d.length + 1) d o
theorem stops : val 58 < 0 ∧ val 64 < 0 ∧ val 44 < 0 ∧ val 59 < 0 ∧ val 10 < 0 := by decide +kernel
theorem AP_text (src : List Int) (size : Int) (t r o : List Int) (h1 : 1 ≤ t.length) (h2 : t.length ≤ 1073741824) :
    AP src size (putL t.length ++ 58 :: (t ++ r)) o = if ((o.length + t.length : Nat) : Int) ≤ size then AP src size r (o ++ t) else none := by
  unfold AP
  rw [apL.eq_2, rdS_put h2 _ (digs_stop _ stops.1)]
  dsimp only
  rw [List.drop_left]
  dsimp only
  rw [if_neg (by decide), if_pos rfl, Int.toNat_natCast, List.drop_left, List.take_left]
  by_cases g : ((o.length + t.length : Nat) : Int) ≤ size
  · rw [if_pos g, if_pos ⟨by omega, by omega, by rw [List.length_append]; omega⟩]
    refine apL_fuel src size _ _ r _ ?_ (by omega)
    rw [List.length_append, List.length_cons, List.length_append]
    omega
  · rw [if_neg g, if_neg]
    intro x
    omega
theorem AP_copy (src : List Int) (size : Int) (n fr : Nat) (r o : List Int) (h1 : 1 ≤ n) (h2 : n ≤ 1073741824) (h3 : fr ≤ 1073741824) (h4 : fr + n ≤ src.length) :
    AP src size (putL n ++ 64 :: (putL fr ++ 44 :: r)) o = if ((o.length + n : Nat) : Int) ≤ size then AP src size r (o ++ (src.drop fr).take n) else none := by
  unfold AP
  rw [apL.eq_2, rdS_put h2 _ (digs_stop _ stops.2.1)]
  dsimp only
  rw [List.drop_left]
  dsimp only
  rw [if_neg (by decide), if_neg (by decide), if_pos rfl]
  have e : copyL (putL fr ++ 44 :: r) = some ((fr : Int), r) := by
    unfold copyL
    rw [rdS_put h3 _ (digs_stop _ stops.2.2.1)]
    dsimp only
    rw [List.drop_left]
    exact if_pos rfl
  rw [e]
  dsimp only
  rw [Int.toNat_natCast, Int.toNat_natCast]
  by_cases g : ((o.length + n : Nat) : Int) ≤ size
  · rw [if_pos g, if_pos ⟨by omega, by omega, by omega, by omega⟩]
    refine apL_fuel src size _ _ r _ ?_ (by omega)
    rw [List.length_append, List.length_cons, List.length_append, List.length_cons]
    omega
  · rw [if_neg g, if_neg]
    intro x
    omega
theorem AP_end (src : List Int) (size : Int) (c : Nat) (r o : List Int) (h : c ≤ 1073741824) :
    AP src size (putL c ++ 59 :: r) o = if r = [] ∧ (o.length : Int) = size ∧ (c : Int) = chk o then some o else none := by
  unfold AP
  rw [apL.eq_2, rdS_put h _ (digs_stop _ stops.2.2.2.1)]
  dsimp only
  rw [List.drop_left]
  dsimp only
  rw [if_pos rfl]
/-- Commands that say a text. -/
def Says (src cmds t : List Int) : Prop := ∀ (size : Int) (r o : List Int),
  (((o.length + t.length : Nat) : Int) ≤ size → AP src size (cmds ++ r) o = AP src size r (o ++ t)) ∧ (AP src size (cmds ++ r) o = AP src size r (o ++ t) ∨ AP src size (cmds ++ r) o = none)
theorem Says.nil (src : List Int) : Says src [] [] := by
  intro size r o
  rw [List.nil_append, List.append_nil]
  exact ⟨fun _ => rfl, Or.inl rfl⟩
theorem Says.cat {src c1 t1 c2 t2 : List Int} (h1 : Says src c1 t1) (h2 : Says src c2 t2) : Says src (c1 ++ c2) (t1 ++ t2) := by
  intro size r o
  have a := h1 size (c2 ++ r) o
  have b := h2 size r (o ++ t1)
  rw [List.append_assoc] at b
  rw [List.append_assoc, List.length_append]
  constructor
  · intro h
    rw [a.1 (by omega), b.1 (by rw [List.length_append]; omega)]
  · rcases a.2 with a | a
    · rw [a]; exact b.2
    · exact Or.inr a
theorem Says.text (src t : List Int) (h1 : 1 ≤ t.length) (h2 : t.length ≤ 1073741824) : Says src (putL t.length ++ 58 :: t) t := by
  intro size r o
  have e : (putL t.length ++ 58 :: t) ++ r = putL t.length ++ 58 :: (t ++ r) := by simp
  rw [e, AP_text src size t r o h1 h2]
  by_cases g : ((o.length + t.length : Nat) : Int) ≤ size
  · rw [if_pos g]; exact ⟨fun _ => rfl, Or.inl rfl⟩
  · rw [if_neg g]; exact ⟨fun h => absurd h g, Or.inr rfl⟩
theorem Says.copy (src : List Int) (n fr : Nat) (h1 : 1 ≤ n) (h2 : n ≤ 1073741824) (h3 : fr ≤ 1073741824) (h4 : fr + n ≤ src.length) : Says src (putL n ++ 64 :: (putL fr ++ [44])) ((src.drop fr).take n) := by
  intro size r o
  have e : (putL n ++ 64 :: (putL fr ++ [44])) ++ r = putL n ++ 64 :: (putL fr ++ 44 :: r) := by simp
  have l : ((src.drop fr).take n).length = n := by rw [List.length_take, List.length_drop]; omega
  rw [e, AP_copy src size n fr r o h1 h2 h3 h4, l]
  by_cases g : ((o.length + n : Nat) : Int) ≤ size
  · rw [if_pos g]; exact ⟨fun _ => rfl, Or.inl rfl⟩
  · rw [if_neg g]; exact ⟨fun h => absurd h g, Or.inr rfl⟩
/-- A whole delta. -/
def whole (cmds t e : List Int) : List Int := putL t.length ++ 10 :: (cmds ++ (putL (chk t).toNat ++ 59 :: e))
theorem sizeL_put {n : Nat} (h : n ≤ 1073741824) (r : List Int) : sizeL (putL n ++ 10 :: r) = some ((n : Int), r) := by
  unfold sizeL
  rw [rdS_put h _ (digs_stop _ stops.2.2.2.2)]
  dsimp only
  rw [List.drop_left]
  exact if_pos rfl
theorem Says.apply {src cmds t : List Int} (h : Says src cmds t) (ht : t.length ≤ 300) (e : List Int) : applyL src (whole cmds t e) = if e = [] then some t else none := by
  have hc := chk_range t
  unfold applyL whole
  rw [sizeL_put (by omega)]
  dsimp only
  rw [if_pos (by omega)]
  have key := (h (t.length : Int) (putL (chk t).toNat ++ 59 :: e) []).1 (by simp)
  rw [AP_end src _ _ _ _ (by omega), List.nil_append] at key
  have z : (putL t.length ++ 10 :: (cmds ++ (putL (chk t).toNat ++ 59 :: e))).length = (putL t.length).length + (1 + (cmds ++ (putL (chk t).toNat ++ 59 :: e)).length) := by
    simp only [List.length_cons, List.length_append]
    omega
  have hf := apL_fuel src (t.length : Int) ((putL t.length ++ 10 :: (cmds ++ (putL (chk t).toNat ++ 59 :: e))).length + 1) ((cmds ++ (putL (chk t).toNat ++ 59 :: e)).length + 1) (cmds ++ (putL (chk t).toNat ++ 59 :: e)) [] (by omega) (by omega)
  rw [hf]
  refine Eq.trans key ?_
  by_cases g : e = []
  · rw [if_pos g, if_pos ⟨g, rfl, by omega⟩]
  · rw [if_neg g, if_neg (fun x => g x.1)]
theorem vals_lt (l : List Int) : ∀ n m, n < m → vals l n < vals l m := by
  induction l with
  | nil => intro n m h; exact h
  | cons c l ih => intro n m h; exact ih _ _ (by omega)
/-- A digit ahead of the size: another size. -/
theorem Says.odd {src cmds t : List Int} (h : Says src cmds t) : applyL src (49 :: whole cmds t []) = none := by
  have hc := chk_range t
  have v49 : val 49 = 1 := by decide +kernel
  have hd : digs (49 :: (putL t.length ++ 10 :: (cmds ++ (putL (chk t).toNat ++ [59])))) = 49 :: putL t.length := by
    rw [digs_yes _ (by omega), digs_app_yes _ _ (put_digits _), digs_stop _ stops.2.2.2.2, List.append_nil]
  unfold applyL
  cases q : sizeL (49 :: whole cmds t []) with
  | none => rfl
  | some p =>
    obtain ⟨n, r⟩ := p
    obtain ⟨j, hr, hdr⟩ := sizeL_some q
    have hj := rdS_some hr
    unfold rdS at hr
    rw [show whole cmds t [] = putL t.length ++ 10 :: (cmds ++ (putL (chk t).toNat ++ [59])) from rfl, hd] at hr
    split at hr
    · simp at hr
    · simp only [Option.some.injEq, Prod.mk.injEq] at hr
      have hn : (t.length : Int) < n := by
        have := vals_lt (putL t.length) 0 1 (by decide)
        rw [vals_put] at this
        rw [← hr.1]
        show _ < vals (putL t.length) (0 * 64 + val 49)
        rw [v49]
        exact this
      have hr' : r = cmds ++ (putL (chk t).toNat ++ [59]) := by
        rw [← hr.2] at hdr
        have e : (49 :: whole cmds t []) = (49 :: putL t.length) ++ 10 :: (cmds ++ (putL (chk t).toNat ++ [59])) := rfl
        rw [e, List.drop_left] at hdr
        injection hdr with _ hdr
        exact hdr.symm
      dsimp only
      by_cases g : n ≤ 300
      · rw [if_pos g, hr']
        have z : (49 :: whole cmds t []).length = 1 + ((putL t.length).length + (1 + (cmds ++ (putL (chk t).toNat ++ [59])).length)) := by
          unfold whole
          simp only [List.length_cons, List.length_append]
          omega
        have hf := apL_fuel src n ((49 :: whole cmds t []).length + 1) ((cmds ++ (putL (chk t).toNat ++ [59])).length + 1) (cmds ++ (putL (chk t).toNat ++ [59])) [] (by omega) (by omega)
        rw [hf]
        rcases (h n (putL (chk t).toNat ++ [59]) []).2 with z | z
        · refine Eq.trans z ?_
          rw [List.nil_append, AP_end src _ _ _ _ (by omega), if_neg]
          intro x
          omega
        · exact z
      · rw [if_neg g]
end Go.Proofs.Ytcjkichimndioab.B
