/- Pieces that stand, and pieces that reach back, make just what they say, one behind the other. For every input. No condition. -/
import Derived.Test.YtcjkichimndioaaPExpandMore
import Derived.Test.YtcjkichimndioaaPSruns
import Derived.Test.YtcjkichimndioaaQx9
namespace Go.Proofs.Ytcjkichimndioaa.Pure
open Go.RowKit Go.Proofs.Ytcjkichimndioaa.B Go.Proofs.Ytcjkichimndioaa.PW Go.Proofs.Ytcjkichimndioaa.Given Go.Proofs.Ytcjkichimndioaa.Q Go.Proofs.YtcjkichimndioaaW.PrintWords Go.Proofs.YtcjkichimndioaaW.PrintMore
/-- The three texts of this statement. -/
theorem three (A B : List Int) (k f : Nat) (hA : 1 ≤ A.length ∧ A.length ≤ 61) (hB : 1 ≤ B.length ∧ B.length ≤ 61) (hk : 3 ≤ k ∧ k ≤ 90) (hf : 1 ≤ f ∧ f ≤ A.length) (T : List Int) :
    exG (A.length + k + B.length) (((A.length - 1 : Nat) : Int) :: (A ++ (((128 + k - 3 : Nat) : Int) :: 0 :: (f : Int) :: (((B.length - 1 : Nat) : Int) :: T)))) [] = exG (A.length + k + B.length) (((B.length - 1 : Nat) : Int) :: T) (rep k f A) := by
  rw [exG_piece _ hA.1 (by omega) _ _ (by simp only [List.length_nil]; omega), List.nil_append, exG_far _ (by omega) _ _ (by omega) hf.1 hf.2]
theorem pieces_tail (A B O : ByteArray) (k f : Nat) (hA : 1 ≤ A.size ∧ A.size ≤ 61) (hB : 1 ≤ B.size ∧ B.size ≤ 61) (hk : 3 ≤ k ∧ k ≤ 90) (hf : 1 ≤ f ∧ f ≤ A.size) (hO : bytesOf O = rep k f (bytesOf A)) :
    Ev (fun j => ammonitelaw4_SqueezePieces.l0 j A B k f O k k) true := by
  have zO : O.size = A.size + k := by rw [← size_len, hO, rep_len, size_len]
  have q1 : (wrap64 ((A.size : Int) - 1)) % 256 = ((A.size - 1 : Nat) : Int) := by rw [w64 (by omega) (by omega)]; omega
  have q2 : (wrap64 ((B.size : Int) - 1)) % 256 = ((B.size - 1 : Nat) : Int) := by rw [w64 (by omega) (by omega)]; omega
  have q3 : (wrap64 ((wrap64 (128 + (k : Int))) - 3)) % 256 = ((128 + k - 3 : Nat) : Int) := by rw [w64 (n := 128 + (k : Int)) (by omega) (by omega), w64 (by omega) (by omega)]; omega
  have q4 : (f : Int) % 256 = (f : Int) := by omega
  refine Ev.step (fun j => ammonitelaw4_SqueezePieces.l0.eq_2 A B k f O k k j) ?_
  rw [q1, q2, q3, q4]
  clear q1 q2 q3 q4
  refine Ev.nn (by omega) (Ev.ip (by omega) (Ev.cb rfl ?_))
  have n1 : bytesOf (strOfNums [((A.size - 1 : Nat) : Int)]) = [((A.size - 1 : Nat) : Int)] := bytesOf_nums (by intro x hx; rw [List.mem_singleton] at hx; omega)
  have n2 : bytesOf (strOfNums [((128 + k - 3 : Nat) : Int), 0, (f : Int)]) = [((128 + k - 3 : Nat) : Int), 0, (f : Int)] := bytesOf_nums (by intro x hx; simp only [List.mem_cons, List.not_mem_nil, or_false] at hx; omega)
  have n3 : bytesOf (strOfNums [((B.size - 1 : Nat) : Int)]) = [((B.size - 1 : Nat) : Int)] := bytesOf_nums (by intro x hx; rw [List.mem_singleton] at hx; omega)
  have z1 : (strOfNums [((A.size - 1 : Nat) : Int)]).size = 1 := size_nums _
  have z2 : (strOfNums [((128 + k - 3 : Nat) : Int), 0, (f : Int)]).size = 3 := size_nums _
  have z3 : (strOfNums [((B.size - 1 : Nat) : Int)]).size = 1 := size_nums _
  generalize strOfNums [((A.size - 1 : Nat) : Int)] = s1 at n1 z1
  refine Ev.ip (by omega) (Ev.cb rfl ?_)
  generalize strOfNums [((128 + k - 3 : Nat) : Int), 0, (f : Int)] = s2 at n2 z2
  have c1 := size_cat s1 A
  refine Ev.ip (by omega) (Ev.cb rfl ?_)
  generalize strOfNums [((B.size - 1 : Nat) : Int)] = s3 at n3 z3
  have c2 := size_cat (catS s1 A) s2
  have c3 := size_cat (catS (catS s1 A) s2) s3
  have c4 := size_cat (catS (catS (catS s1 A) s2) s3) B
  have bS : bytesOf (catS (catS (catS (catS s1 A) s2) s3) B) = ((A.size - 1 : Nat) : Int) :: (bytesOf A ++ (((128 + k - 3 : Nat) : Int) :: 0 :: (f : Int) :: (((B.size - 1 : Nat) : Int) :: bytesOf B))) := by
    simp only [bytesOf_cat, n1, n2, n3, List.append_assoc]
    rfl
  refine Ev.ip (by omega) (Ev.ip (by omega) ?_)
  generalize catS (catS (catS (catS s1 A) s2) s3) B = S at c4 bS
  have cO := size_cat O B
  have eN : ((catS O B).size : Int) = ((A.size + k + B.size : Nat) : Int) := by rw [cO, zO]
  rw [eN]
  have hN : A.size + k + B.size ≤ 212 := by omega
  have hAL : (bytesOf A).length = A.size := size_len A
  have hBL : (bytesOf B).length = B.size := size_len B
  have D := dec_small (n := A.size + k + B.size) (by omega)
  have dz : (decB (A.size + k + B.size)).size ≤ 213 := by rw [size_dec]; have := (decL_len (A.size + k + B.size)).2; omega
  have o1 : (⟨#[59]⟩ : ByteArray).size = 1 := rfl
  have b59 : bytesOf (⟨#[59]⟩ : ByteArray) = [59] := rfl
  have run : ∀ X : ByteArray, X.size ≤ 1000 → Ev (fun j => squeeze_Expand.f j (catS (catS (decB (A.size + k + B.size)) ⟨#[59]⟩) X) 400) (exR (exG (A.size + k + B.size) (bytesOf X) [])) := by
    intro X hX
    have := expand_ev (catS (catS (decB (A.size + k + B.size)) ⟨#[59]⟩) X) (by rw [size_cat, size_cat]; omega) 400
    have e : bytesOf (catS (catS (decB (A.size + k + B.size)) ⟨#[59]⟩) X) = decL (A.size + k + B.size) ++ 59 :: bytesOf X := by
      rw [bytesOf_cat, bytesOf_cat, bytesOf_dec, b59, List.append_assoc]; rfl
    rw [e, exS_decG (by omega), if_neg (by omega)] at this
    exact this
  have t3 := three (bytesOf A) (bytesOf B) k f (by omega) (by omega) hk (by omega)
  rw [hAL, hBL] at t3
  have r1 := run S (by omega)
  have r2 := run (catS S ⟨#[0, 122]⟩) (by rw [size_cat]; have : (⟨#[0, 122]⟩ : ByteArray).size = 2 := rfl; omega)
  have r3 := run (cutS S 0 (S.size - 1)) (by rw [size_cut (by omega)]; omega)
  have x1 : exG (A.size + k + B.size) (bytesOf S) [] = some (rep k f (bytesOf A) ++ bytesOf B) := by
    rw [bS, t3]
    have := exG_piece (A.size + k + B.size) (A := bytesOf B) (by omega) (by omega) [] (rep k f (bytesOf A)) (by rw [rep_len]; omega)
    rw [hBL, List.append_nil] at this
    rw [this, exG_nil, if_pos (by rw [List.length_append, rep_len]; omega)]
  have x2 : exG (A.size + k + B.size) (bytesOf (catS S ⟨#[0, 122]⟩)) [] = none := by
    have b2 : bytesOf (⟨#[0, 122]⟩ : ByteArray) = [0, 122] := rfl
    have e : bytesOf (catS S ⟨#[0, 122]⟩) = ((A.size - 1 : Nat) : Int) :: (bytesOf A ++ (((128 + k - 3 : Nat) : Int) :: 0 :: (f : Int) :: (((B.size - 1 : Nat) : Int) :: (bytesOf B ++ [0, 122])))) := by
      rw [bytesOf_cat, bS, b2]
      simp only [List.cons_append, List.append_assoc]
    rw [e, t3]
    have := exG_piece (A.size + k + B.size) (A := bytesOf B) (by omega) (by omega) [0, 122] (rep k f (bytesOf A)) (by rw [rep_len]; omega)
    rw [hBL] at this
    rw [this]
    have := exG_lit (A.size + k + B.size) (c := 0) (by omega) [122] (rep k f (bytesOf A) ++ bytesOf B)
    refine Eq.trans this ?_
    rw [if_pos]
    right
    rw [List.length_append, rep_len]
    omega
  have x3 : exG (A.size + k + B.size) (bytesOf (cutS S 0 (S.size - 1))) [] = none := by
    have e : bytesOf (cutS S 0 (S.size - 1)) = ((A.size - 1 : Nat) : Int) :: (bytesOf A ++ (((128 + k - 3 : Nat) : Int) :: 0 :: (f : Int) :: (((B.size - 1 : Nat) : Int) :: (bytesOf B).take (B.size - 1)))) := by
      rw [bytesOf_cut, List.drop_zero, Nat.sub_zero, bS]
      have e1 : S.size - 1 = (A.size + (B.size - 1 + 4)) + 1 := by omega
      rw [e1, List.take_succ_cons, List.take_append, hAL]
      have e2 : A.size + (B.size - 1 + 4) - A.size = (B.size - 1 + 1 + 1 + 1) + 1 := by omega
      rw [e2, List.take_succ_cons, List.take_succ_cons, List.take_succ_cons, List.take_succ_cons, List.take_of_length_le (by omega)]
    rw [e, t3, exG_lit _ (by omega), if_pos]
    left
    rw [List.length_take]
    omega
  rw [x1] at r1
  rw [x2] at r2
  rw [x3] at r3
  clear x1 x2 x3 t3 run
  have p1 := size_cat (decB (A.size + k + B.size)) ⟨#[59]⟩
  have p2 := size_cat (catS (decB (A.size + k + B.size)) ⟨#[59]⟩) S
  refine Ev.bind D (Ev.ip (by omega) (Ev.ip (by omega) (Ev.bind r1 ?_)))
  rw [← cat_assoc (catS (decB (A.size + k + B.size)) ⟨#[59]⟩) S ⟨#[0, 122]⟩] at r2
  refine Ev.bind D (Ev.ip (by omega) (Ev.ip (by omega) (Ev.ip (by omega) (Ev.bind r2 ?_))))
  have q5 : wrap64 ((S.size : Int) - 1) = ((S.size - 1 : Nat) : Int) := by rw [w64 (by omega) (by omega)]; omega
  rw [q5, Int.toNat_natCast]
  clear q5
  have p3 : (cutS S 0 (S.size - 1)).size = S.size - 1 := by rw [size_cut (by omega)]; omega
  refine Ev.bind D (Ev.ip (by omega) (Ev.ip (by omega) (Ev.ip (by omega) (Ev.ip (by omega) (Ev.bind r3 ?_)))))
  refine Ev.ip rfl (Ev.ip ?_ (Ev.nn (by decide) (Ev.nn (by decide) (Ev.bind sruns (Ev.now _)))))
  apply toList_iff.2
  rw [bytesOf_cat, hO]
  have : rep k f (bytesOf A) ++ bytesOf B = bytesOf (catS O B) := by rw [bytesOf_cat, hO]
  rw [this]
  show bytesOf (strOfNums (bytesOf (catS O B))) = _
  rw [strOfNums_bytesOf]
theorem pieces_loop (A B : ByteArray) (k f : Nat) (hA : 1 ≤ A.size ∧ A.size ≤ 61) (hB : 1 ≤ B.size ∧ B.size ≤ 61) (hk : 3 ≤ k ∧ k ≤ 90) (hf : 1 ≤ f ∧ f ≤ A.size) (d : Nat) : ∀ (i : Nat) (O : ByteArray), i + d = k → O.size = A.size + i → rep d f (bytesOf O) = rep k f (bytesOf A) →
    Ev (fun j => ammonitelaw4_SqueezePieces.l0 j A B k f O k i) true := by
  induction d with
  | zero =>
    intro i O hi _ hO
    obtain rfl : i = k := by omega
    exact pieces_tail A B O i f hA hB hk hf hO
  | succ d ih =>
    intro i O hi hz hO
    refine Ev.step (fun j => ammonitelaw4_SqueezePieces.l0.eq_2 A B k f O k i j) ?_
    have q1 : wrap64 ((O.size : Int) - (f : Int)) = ((O.size - f : Nat) : Int) := by rw [w64 (by omega) (by omega)]; omega
    rw [q1]
    clear q1
    rw [wsucc (by omega), wsucc (by omega), Int.toNat_natCast, Int.toNat_natCast]
    have c1 : (cutS O (O.size - f) (O.size - f + 1)).size = 1 := by rw [size_cut (by omega)]; omega
    have b1 : bytesOf (cutS O (O.size - f) (O.size - f + 1)) = [(bytesOf O).getD (O.size - f) 0] := by
      rw [bytesOf_cut, drop_cons O _ (by omega), bt_nat]
      have : O.size - f + 1 - (O.size - f) = 1 := by omega
      rw [this]
      rfl
    refine Ev.ip (by omega) (Ev.ip (by omega) (Ev.ip (by omega) (Ev.ip (by omega) (Ev.ip (by omega) ?_))))
    refine ih (i + 1) _ (by omega) (by rw [size_cat]; omega) ?_
    rw [bytesOf_cat, b1, ← hO]
    conv => rhs; unfold rep
    rw [size_len]
theorem SqueezePieces : ammonitelaw4_SqueezePieces.Pure := by
  intro a0 a1 a2 a3 h0 h1 _ _
  have m0 : 0 ≤ mn (a0.size : Int) 60 ∧ mn (a0.size : Int) 60 ≤ (a0.size : Int) ∧ mn (a0.size : Int) 60 ≤ 60 := by unfold mn; split <;> omega
  have m1 : 0 ≤ mn (a1.size : Int) 60 ∧ mn (a1.size : Int) 60 ≤ (a1.size : Int) ∧ mn (a1.size : Int) 60 ≤ 60 := by unfold mn; split <;> omega
  refine Ev.rounds (g := fun k => ammonitelaw4_SqueezePieces.f k a0 a1 a2 a3) ?_
  unfold ammonitelaw4_SqueezePieces.f
  have z0 : (cutS a0 0 (mn (a0.size : Int) 60).toNat).size ≤ 60 := by rw [size_cut (by omega)]; omega
  have z1 : (cutS a1 0 (mn (a1.size : Int) 60).toNat).size ≤ 60 := by rw [size_cut (by omega)]; omega
  generalize cutS a0 0 (mn (a0.size : Int) 60).toNat = u at z0
  generalize cutS a1 0 (mn (a1.size : Int) 60).toNat = v at z1
  have sA := size_cat ⟨#[120]⟩ u
  have sB := size_cat ⟨#[121]⟩ v
  have o1 : (⟨#[120]⟩ : ByteArray).size = 1 := rfl
  have o2 : (⟨#[121]⟩ : ByteArray).size = 1 := rfl
  refine Ev.ip m0.1 (Ev.ip m0.2.1 (Ev.ip (by omega) (Ev.ip m1.1 (Ev.ip m1.2.1 (Ev.ip (by omega) ?_)))))
  generalize catS ⟨#[120]⟩ u = A at sA
  generalize catS ⟨#[121]⟩ v = B at sB
  obtain ⟨k0, hk, hk0, hk1⟩ := within_ev a2 (lo := 3) (hi := 90) (by omega) (by omega) (by omega)
  obtain ⟨f0, hf, hf0, hf1⟩ := within_ev a3 (lo := 1) (hi := (A.size : Int)) (by omega) (by omega) (by omega)
  obtain ⟨k, rfl⟩ : ∃ k : Nat, k0 = k := ⟨k0.toNat, by omega⟩
  obtain ⟨f, rfl⟩ : ∃ f : Nat, f0 = f := ⟨f0.toNat, by omega⟩
  refine Ev.cb hk (Ev.cb hf ?_)
  exact pieces_loop A B k f (by omega) (by omega) (by omega) (by omega) k 0 A (by omega) (by omega) rfl
end Go.Proofs.Ytcjkichimndioaa.Pure
