/- What says more than may be isn't made; what goes beyond its size, or back ahead of its beginning, isn't either. For every input. No condition. -/
import Derived.Test.YtcjkichimndioaaPExpand
import Derived.Test.YtcjkichimndioaaPSruns
import Derived.OpenShut
import Derived.Test.YtcjkichimndioaaQx8
namespace Go.Proofs.Ytcjkichimndioaa.Pure
open Go.RowKit Go.Proofs.Ytcjkichimndioaa.B Go.Proofs.Ytcjkichimndioaa.PW Go.Proofs.Ytcjkichimndioaa.Given Go.Proofs.Ytcjkichimndioaa.Q Go.Proofs.YtcjkichimndioaaW.PrintWords Go.Proofs.YtcjkichimndioaaW.PrintMore
theorem rep_one (n : Nat) (c : Int) : ∀ m, rep n 1 (List.replicate (m + 1) c) = List.replicate (m + 1 + n) c := by
  induction n with
  | zero => intro m; rfl
  | succ n ih =>
    intro m
    unfold rep
    have : List.replicate (m + 1) c ++ [(List.replicate (m + 1) c).getD ((List.replicate (m + 1) c).length - 1) 0] = List.replicate (m + 1 + 1) c := by
      have e : (List.replicate (m + 1) c).getD ((List.replicate (m + 1) c).length - 1) 0 = c := by simp [List.getD_eq_getElem?_getD]
      rw [e]
      exact (List.replicate_succ' ..).symm
    rw [this, ih (m + 1)]
    congr 1
    omega
/-- The pieces of this statement. -/
theorem bomb (size k f : Nat) (hk : 3 ≤ k ∧ k ≤ 130) (c : Int) : exGo size 5 [0, c, ((128 + k - 3 : Nat) : Int), 0, (f : Int)] [] =
    if size < 1 ∨ size < 1 + k ∨ f < 1 ∨ 1 < f then none else if 1 + k = size then some (List.replicate (1 + k) c) else none := by
  have go0 : ∀ g o, exGo size g [] o = if o.length = size then some o else none := by intro g o; cases g <;> rfl
  unfold exGo
  rw [if_pos (by decide)]
  by_cases a : size < 1
  · rw [if_pos (Or.inr (by simp; omega)), if_pos (Or.inl a)]
  · rw [if_neg (by simp; omega)]
    have d : [c, ((128 + k - 3 : Nat) : Int), 0, (f : Int)].drop ((0 : Int).toNat + 1) = [((128 + k - 3 : Nat) : Int), 0, (f : Int)] := rfl
    have t : ([] : List Int) ++ [c, ((128 + k - 3 : Nat) : Int), 0, (f : Int)].take ((0 : Int).toNat + 1) = [c] := rfl
    rw [d, t]
    unfold exGo
    rw [if_neg (by omega)]
    dsimp only
    have e : (((128 + k - 3 : Nat) : Int)).toNat - 125 = k := by omega
    have ef : ((0 : Int) * 256 + (f : Int)) = (f : Int) := by omega
    rw [e, ef]
    have l1 : [c].length = 1 := rfl
    rw [l1]
    by_cases b : size < 1 + k ∨ f < 1 ∨ 1 < f
    · rw [if_pos (by omega), if_pos (Or.inr b)]
    · rw [if_neg (by omega), if_neg (by omega), Int.toNat_natCast, go0]
      have : f = 1 := by omega
      subst this
      have r := rep_one k c 0
      have r' : rep k 1 [c] = List.replicate (1 + k) c := by rw [Nat.zero_add] at r; exact r
      rw [r', List.length_replicate]
theorem all_c (c : Int) (x : ByteArray) (h : ∀ i : Nat, i < x.size → bt x i = c) (hx : x.size ≤ 1000) (d : Nat) : ∀ i : Nat, i + d = x.size → Ev (fun k => ammonitelaw4_SqueezeBombs.l0 k c x x.size i) true := by
  induction d with
  | zero =>
    intro i hi
    refine Ev.step (fun k => ammonitelaw4_SqueezeBombs.l0.eq_2 c x x.size i k) ?_
    refine Ev.nn (by omega) ?_
    have w1 := expand_ev (⟨#[]⟩ : ByteArray) (by decide) 9
    have w2 := expand_ev (⟨#[48, 59]⟩ : ByteArray) (by decide) 0
    have e1 : exS (bytesOf (⟨#[]⟩ : ByteArray)) 9 = none := if_neg (by intro h; cases h)
    have e2 : exS (bytesOf (⟨#[48, 59]⟩ : ByteArray)) 0 = some [] := by
      have b : bytesOf (⟨#[48, 59]⟩ : ByteArray) = decL 0 ++ 59 :: [] := by rw [decL_lt (by omega)]; rfl
      rw [b, exS_dec (by omega), if_neg (by omega)]
      rfl
    rw [e1] at w1
    rw [e2] at w2
    refine Ev.bind w1 (Ev.bind w2 (Ev.nn (by decide) (Ev.ip rfl (Ev.ip (toList_nil.2 rfl) (Ev.bind sruns (Ev.now _))))))
  | succ d ih =>
    intro i hi
    refine Ev.step (fun k => ammonitelaw4_SqueezeBombs.l0.eq_2 c x x.size i k) ?_
    refine Ev.ip (by omega) (Ev.ip (by omega) (Ev.ip (by omega) (Ev.ip (h i (by omega)) ?_)))
    rw [wsucc (by omega)]
    exact ih (i + 1) (by omega)
theorem nil_c (c : Int) : Ev (fun k => ammonitelaw4_SqueezeBombs.l0 k c (⟨#[]⟩ : ByteArray) (((⟨#[]⟩ : ByteArray).size : Nat) : Int) 0) true :=
  all_c c ⟨#[]⟩ (fun i h => absurd h (Nat.not_lt_zero _)) (by decide) 0 0 rfl
theorem SqueezeBombs : ammonitelaw4_SqueezeBombs.Pure := by
  intro a0 a1 a2 a3 _ _ _ hw
  refine Ev.rounds (g := fun k => ammonitelaw4_SqueezeBombs.f k a0 a1 a2 a3) ?_
  unfold ammonitelaw4_SqueezeBombs.f
  have hc : 0 ≤ a3 ∧ a3 ≤ 255 := bounds_u8 hw
  obtain ⟨k0, hk, hk0, hk1⟩ := within_ev a0 (lo := 3) (hi := 130) (by omega) (by omega) (by omega)
  obtain ⟨m, hm, hm0, hm1⟩ := within_ev a2 (lo := 0) (hi := 400) (by omega) (by omega) (by omega)
  obtain ⟨f0, hf, hf0, hf1⟩ := within_ev a1 (lo := 0) (hi := 3) (by omega) (by omega) (by omega)
  obtain ⟨k, rfl⟩ : ∃ k : Nat, k0 = k := ⟨k0.toNat, by omega⟩
  obtain ⟨f, rfl⟩ : ∃ f : Nat, f0 = f := ⟨f0.toNat, by omega⟩
  refine Ev.cb hk (Ev.cb hm (Ev.cb hf (Ev.cb rfl ?_)))
  have q1 : (wrap64 ((wrap64 (128 + (k : Int))) - 3)) % 256 = ((128 + k - 3 : Nat) : Int) := by rw [w64 (n := 128 + (k : Int)) (by omega) (by omega), w64 (by omega) (by omega)]; omega
  have q2 : (f : Int) % 256 = (f : Int) := by omega
  rw [q1, q2, wsucc (by omega), wadd (i := k) (j := 2) (x := 2) rfl (by omega)]
  clear q1 q2
  have bl : bytesOf (strOfNums [0, a3, ((128 + k - 3 : Nat) : Int), 0, (f : Int)]) = [0, a3, ((128 + k - 3 : Nat) : Int), 0, (f : Int)] := bytesOf_nums (by
    intro x hx
    simp only [List.mem_cons, List.not_mem_nil, or_false] at hx
    omega)
  have sl : (strOfNums [0, a3, ((128 + k - 3 : Nat) : Int), 0, (f : Int)]).size = 5 := size_nums _
  generalize strOfNums [0, a3, ((128 + k - 3 : Nat) : Int), 0, (f : Int)] = p at bl sl
  have o1 : (⟨#[59]⟩ : ByteArray).size = 1 := rfl
  have b59 : bytesOf (⟨#[59]⟩ : ByteArray) = [59] := rfl
  have run : ∀ (n : Nat) (most : Int), n ≤ 200 → Ev (fun j => squeeze_Expand.f j (catS (catS (decB n) ⟨#[59]⟩) p) most) (exR (if (n : Int) > most then none else if n < 1 ∨ n < 1 + k ∨ f < 1 ∨ 1 < f then none else if 1 + k = n then some (List.replicate (1 + k) a3) else none)) := by
    intro n most hn
    have dl := (decL_len n).2
    have := expand_ev (catS (catS (decB n) ⟨#[59]⟩) p) (by rw [size_cat, size_cat, size_dec]; omega) most
    have e : bytesOf (catS (catS (decB n) ⟨#[59]⟩) p) = decL n ++ 59 :: [0, a3, ((128 + k - 3 : Nat) : Int), 0, (f : Int)] := by
      rw [bytesOf_cat, bytesOf_cat, bytesOf_dec, bl, b59, List.append_assoc]; rfl
    rw [e, exS_dec (by omega)] at this
    have b := bomb n k f (by omega) a3
    have l5 : [0, a3, ((128 + k - 3 : Nat) : Int), 0, (f : Int)].length = 5 := rfl
    rw [l5, b] at this
    exact this
  have dd : ∀ n : Nat, n ≤ 200 → Ev (fun j => digit_Dec.f j (n : Int)) (decB n) ∧ (decB n).size ≤ 201 := by
    intro n hn
    have h := dec_ev (n := (n : Int)) (by omega) (by omega)
    rw [Int.toNat_natCast] at h
    exact ⟨h, by rw [size_dec]; have := (decL_len n).2; omega⟩
  have d1 := dd (k + 1) (by omega)
  have d2 := dd k (by omega)
  have d3 := dd (k + 2) (by omega)
  have r1 := run (k + 1) m (by omega)
  have r2 := run k 400 (by omega)
  have r3 := run (k + 2) 400 (by omega)
  clear run dd bl
  have e2 : (if ((k : Nat) : Int) > 400 then none else if k < 1 ∨ k < 1 + k ∨ f < 1 ∨ 1 < f then none else if 1 + k = k then some (List.replicate (1 + k) a3) else none : Option (List Int)) = none := by
    rw [if_neg (by omega), if_pos (by omega)]
  have e3 : (if ((k + 2 : Nat) : Int) > 400 then none else if k + 2 < 1 ∨ k + 2 < 1 + k ∨ f < 1 ∨ 1 < f then none else if 1 + k = k + 2 then some (List.replicate (1 + k) a3) else none : Option (List Int)) = none := by
    rw [if_neg (by omega), if_neg (by omega : ¬ (1 + k = k + 2))]
    split <;> rfl
  rw [e2] at r2
  rw [e3] at r3
  clear e2 e3
  have z1 := size_cat (decB (k + 1)) ⟨#[59]⟩
  have z2 := size_cat (decB k) ⟨#[59]⟩
  have z3 := size_cat (decB (k + 2)) ⟨#[59]⟩
  have zz1 := d1.2
  have zz2 := d2.2
  have zz3 := d3.2
  refine Ev.bind d1.1 (Ev.ip (by omega) (Ev.ip (by omega) (Ev.bind r1 ?_)))
  refine Ev.bind d2.1 (Ev.ip (by omega) (Ev.ip (by omega) (Ev.bind r2 ?_)))
  refine Ev.bind d3.1 (Ev.ip (by omega) (Ev.ip (by omega) (Ev.bind r3 ?_)))
  have bad : ∀ g : Bool, g = false → Ev (fun j => ammonitelaw4_SqueezeBombs.j0 j a3 k (⟨#[]⟩ : ByteArray) false (exR none).1 (exR none).2 (exR none).1 (exR none).2 g) true := by
    rintro g rfl
    refine Ev.step (fun j => ammonitelaw4_SqueezeBombs.j0.eq_2 a3 k _ false _ _ _ _ false j) ?_
    refine Ev.nn (by decide) (Ev.nn (by decide) (Ev.nn (by decide) (Ev.ip (toList_nil.2 rfl) (Ev.ip (toList_nil.2 rfl) (Ev.nn (by decide) (Ev.ip (toList_nil.2 rfl) ?_))))))
    refine Ev.step (fun j => ammonitelaw4_SqueezeBombs.j1.eq_2 a3 _ false j) (Ev.nn (by decide) (nil_c a3))
  by_cases hf1 : f = 1
  · subst hf1
    refine Ev.ip rfl ?_
    by_cases g : ((k + 1 : Nat) : Int) ≤ m
    · have e : (if ((k + 1 : Nat) : Int) > m then none else if k + 1 < 1 ∨ k + 1 < 1 + k ∨ 1 < 1 ∨ 1 < 1 then none else if 1 + k = k + 1 then some (List.replicate (1 + k) a3) else none : Option (List Int)) = some (List.replicate (1 + k) a3) := by
        rw [if_neg (by omega), if_neg (by omega), if_pos (by omega)]
      rw [e, decide_eq_true g]
      have sx : (strOfNums (List.replicate (1 + k) a3)).size = 1 + k := by rw [size_nums, List.length_replicate]
      have bx : bytesOf (strOfNums (List.replicate (1 + k) a3)) = List.replicate (1 + k) a3 := bytesOf_nums (by
        intro x hx
        have := List.eq_of_mem_replicate hx
        omega)
      refine Ev.step (fun j => ammonitelaw4_SqueezeBombs.j0.eq_2 a3 k _ true _ _ _ _ true j) ?_
      refine Ev.nn (by decide) (Ev.nn (by decide) (Ev.nn (by decide) (Ev.ip (toList_nil.2 rfl) (Ev.ip (toList_nil.2 rfl) (Ev.ip rfl ?_)))))
      rw [wsucc (by omega)]
      have e4 : ((((exR (some (List.replicate (1 + k) a3))).1.size : Int)) != ((k + 1 : Nat) : Int)) = false := by
        show (((strOfNums (List.replicate (1 + k) a3)).size : Int) != _) = false
        rw [sx]
        simp
        omega
      rw [e4]
      refine Ev.step (fun j => ammonitelaw4_SqueezeBombs.j1.eq_2 a3 _ false j) (Ev.nn (by decide) ?_)
      refine all_c a3 (strOfNums (List.replicate (1 + k) a3)) ?_ (by omega) (strOfNums (List.replicate (1 + k) a3)).size 0 (by omega)
      intro i hi
      rw [bt_nat, bx, List.getD_eq_getElem?_getD, List.getElem?_replicate, if_pos (by omega)]
      rfl
    · have e : (if ((k + 1 : Nat) : Int) > m then none else if k + 1 < 1 ∨ k + 1 < 1 + k ∨ 1 < 1 ∨ 1 < 1 then none else if 1 + k = k + 1 then some (List.replicate (1 + k) a3) else none : Option (List Int)) = none := if_pos (by omega)
      rw [e]
      exact bad _ (decide_eq_false g)
  · refine Ev.nn (by omega) ?_
    have e : (if ((k + 1 : Nat) : Int) > m then none else if k + 1 < 1 ∨ k + 1 < 1 + k ∨ f < 1 ∨ 1 < f then none else if 1 + k = k + 1 then some (List.replicate (1 + k) a3) else none : Option (List Int)) = none := by
      by_cases g : ((k + 1 : Nat) : Int) > m
      · exact if_pos g
      · rw [if_neg g, if_pos (by omega)]
    rw [e]
    exact bad _ rfl
end Go.Proofs.Ytcjkichimndioaa.Pure
