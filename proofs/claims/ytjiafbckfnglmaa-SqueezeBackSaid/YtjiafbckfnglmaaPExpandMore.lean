/- Expand's pieces, one by one. -/
import Derived.Test.YtjiafbckfnglmaaPExpand
namespace Go.Proofs.Ytjiafbckfnglmaa.B
open Go.RowKit Go.Proofs.Ytjiafbckfnglmaa.PW Go.Proofs.Ytjiafbckfnglmaa.Given Go.Proofs.Ytjiafbckfnglmaa.Q Go.Proofs.YtjiafbckfnglmaaW.PrintWords
/-- The pieces' answer with as much fuel as there are bytes. -/
def exG (size : Nat) (l o : List Int) : Option (List Int) := exGo size l.length l o
theorem exG_nil (size : Nat) (o : List Int) : exG size [] o = if o.length = size then some o else none := rfl
theorem exG_lit (size : Nat) {c : Nat} (hc : c < 128) (r o : List Int) : exG size ((c : Int) :: r) o =
    if r.length < c + 1 ∨ size < o.length + (c + 1) then none else exG size (r.drop (c + 1)) (o ++ r.take (c + 1)) := by
  unfold exG
  rw [List.length_cons]
  conv => lhs; unfold exGo
  rw [if_pos (by omega), Int.toNat_natCast]
  by_cases b : r.length < c + 1 ∨ size < o.length + (c + 1)
  · rw [if_pos b, if_pos b]
  · rw [if_neg b, if_neg b]
    exact exGo_fuel size _ _ _ _ (Nat.le_refl _) (by rw [List.length_drop]; omega)
theorem exG_back (size : Nat) {c : Nat} (hc : ¬ c < 128) (x y : Int) (r o : List Int) : exG size ((c : Int) :: x :: y :: r) o =
    if size < o.length + (c - 125) ∨ x * 256 + y < 1 ∨ (o.length : Int) < x * 256 + y then none else exG size r (rep (c - 125) (x * 256 + y).toNat o) := by
  unfold exG
  rw [List.length_cons]
  conv => lhs; unfold exGo
  rw [if_neg (by omega), Int.toNat_natCast]
  dsimp only
  by_cases b : size < o.length + (c - 125) ∨ x * 256 + y < 1 ∨ (o.length : Int) < x * 256 + y
  · rw [if_pos b, if_pos b]
  · rw [if_neg b, if_neg b]
    exact exGo_fuel size _ _ _ _ (Nat.le_refl _) (by simp only [List.length_cons]; omega)
/-- A piece that stands. -/
theorem exG_piece (size : Nat) {A : List Int} (h0 : 1 ≤ A.length) (h1 : A.length ≤ 128) (R o : List Int) (hs : o.length + A.length ≤ size) :
    exG size (((A.length - 1 : Nat) : Int) :: (A ++ R)) o = exG size R (o ++ A) := by
  have e : A.length - 1 + 1 = A.length := by omega
  rw [exG_lit size (by omega), if_neg (by rw [List.length_append]; omega), e, List.drop_left' rfl, List.take_left' rfl]
/-- A piece that reaches back. -/
theorem exG_far (size : Nat) {k f : Nat} (hk : 3 ≤ k ∧ k ≤ 130) (R o : List Int) (hs : o.length + k ≤ size) (h1 : 1 ≤ f) (h2 : f ≤ o.length) :
    exG size (((128 + k - 3 : Nat) : Int) :: 0 :: (f : Int) :: R) o = exG size R (rep k f o) := by
  have e : 128 + k - 3 - 125 = k := by omega
  have ef : ((0 : Int) * 256 + (f : Int)) = (f : Int) := by omega
  rw [exG_back size (by omega), e, ef, if_neg (by omega), Int.toNat_natCast]
theorem exS_decG {n : Nat} (hn : n ≤ 1073741824) (r : List Int) (most : Int) : exS (decL n ++ 59 :: r) most = if (n : Int) > most then none else exG n r [] := exS_dec hn r most
theorem dec_small {n : Nat} (h : n ≤ 1073741824) : Ev (fun k => digit_Dec.f k (n : Int)) (decB n) := by
  have := dec_ev (n := (n : Int)) (by omega) (by omega)
  rw [Int.toNat_natCast] at this
  exact this
end Go.Proofs.Ytjiafbckfnglmaa.B
