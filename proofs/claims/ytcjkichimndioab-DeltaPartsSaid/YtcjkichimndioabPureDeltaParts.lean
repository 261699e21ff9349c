/- For any text, any numbers and any byte: copies and texts in any order make what they say, of another source with the same parts, too; what is odd makes nothing. No condition. -/
import Derived.Test.YtcjkichimndioabPText
import Derived.Test.YtcjkichimndioabPList
import Derived.Test.YtcjkichimndioabQx9
import Derived.KernelRfl
set_option linter.unusedSimpArgs false
namespace Go.Proofs.Ytcjkichimndioab.Pure
open Go.RowKit Go.Proofs.Ytcjkichimndioab.B Go.Proofs.Ytcjkichimndioab.PW Go.Proofs.Ytcjkichimndioab.Given Go.Proofs.Ytcjkichimndioab.Q Go.Proofs.YtcjkichimndioabW.PrintWords Go.Proofs.YtcjkichimndioabW.PrintMore Go.Proofs.YtcjkichimndioabW.PrintLast
theorem runs5 : Ev (fun k => ammonitelaw3_DeltaRuns.f k) true := Ev.of ammonitelaw3_DeltaRuns.mono (k := 20) (by kernel_rfl)
theorem pput (n : Nat) (h : n ≤ 1073741824) : Ev (fun k => digit_Put.f k (n : Int)) (putB n) := by
  have := put_ev (n := (n : Int)) (by omega) (by omega)
  rw [Int.toNat_natCast] at this
  exact this
/-- What stands behind the source. -/
def more : ByteArray := ⟨#[109, 111, 114, 101, 32, 98, 101, 104, 105, 110, 100, 32, 105, 116]⟩
theorem parts_end (ops : List Int) (c : Int) (s o d : ByteArray) (i : Int) (hs : s.size ≤ 1000) (ho : o.size ≤ 200) (hd : d.size ≤ 2000)
    (h1 : Says (bytesOf s) (bytesOf d) (bytesOf o)) (h2 : Says (bytesOf (catS s more)) (bytesOf d) (bytesOf o)) : Ev (fun k => ammonitelaw3_DeltaParts.j1 k ops c s o d i false) true := by
  have hk := chk_range (bytesOf o)
  have lk := put6 (n := (chk (bytesOf o)).toNat) (by omega)
  have lo := put6 (n := o.size) (by omega)
  have s1 : (⟨#[10]⟩ : ByteArray).size = 1 := rfl
  have s2 : (⟨#[59]⟩ : ByteArray).size = 1 := rfl
  have s3 : (⟨#[49]⟩ : ByteArray).size = 1 := rfl
  have s4 : more.size = 14 := rfl
  have b1 : bytesOf ⟨#[10]⟩ = [10] := rfl
  have b2 : bytesOf ⟨#[59]⟩ = [59] := rfl
  have b3 : bytesOf ⟨#[49]⟩ = [49] := rfl
  have hput : Ev (fun k => digit_Put.f k (chk (bytesOf o))) (putB (chk (bytesOf o)).toNat) := put_ev (by omega) (by omega)
  have hw : bytesOf (catS (catS (catS (catS (putB o.size) ⟨#[10]⟩) d) (putB (chk (bytesOf o)).toNat)) ⟨#[59]⟩) = whole (bytesOf d) (bytesOf o) [] := by
    unfold whole
    simp only [bytesOf_cat, bytesOf_put, b1, b2, size_len, List.append_assoc, List.cons_append, List.nil_append]
  have hz : (catS (catS (catS (catS (putB o.size) ⟨#[10]⟩) d) (putB (chk (bytesOf o)).toNat)) ⟨#[59]⟩).size ≤ 3000 := by simp only [size_cat, size_put, s1, s2]; omega
  have hgo : Ev (fun k => ammonitelaw3_DeltaParts.j1 k ops c s o d i false) true := by
    refine Ev.step (fun k => ammonitelaw3_DeltaParts.j1.eq_2 ops c s o d i false k) (Ev.nn (by decide) (Ev.bind (pput _ (by omega)) (Ev.ip ?_ (Ev.ip ?_ (Ev.bind (check_ev o (by omega)) (Ev.bind hput (Ev.ip ?_ (Ev.ip ?_ ?_))))))))
    · simp only [size_put]; omega
    · simp only [size_cat, size_put, s1]; omega
    · simp only [size_cat, size_put, s1]; omega
    · simp only [size_cat, size_put, s1]; omega
    generalize catS (catS (catS (catS (putB o.size) ⟨#[10]⟩) d) (putB (chk (bytesOf o)).toNat)) ⟨#[59]⟩ = D at hw hz
    have a1 : apR (applyL (bytesOf s) (bytesOf D)) = (o, true) := by rw [hw, h1.apply (by rw [size_len]; omega), if_pos rfl, apR_some]
    have a2 : apR (applyL (bytesOf (catS s more)) (bytesOf D)) = (o, true) := by rw [hw, h2.apply (by rw [size_len]; omega), if_pos rfl, apR_some]
    have a3 : apR (applyL (bytesOf s) (bytesOf (catS D ⟨#[59]⟩))) = (⟨#[]⟩, false) := by
      have e : bytesOf (catS D ⟨#[59]⟩) = whole (bytesOf d) (bytesOf o) [59] := by
        rw [bytesOf_cat, hw]
        unfold whole
        simp only [b2, List.append_assoc, List.cons_append, List.nil_append]
      rw [e, h1.apply (by rw [size_len]; omega), if_neg (by decide)]
      rfl
    have a4 : apR (applyL (bytesOf s) (bytesOf (catS ⟨#[49]⟩ D))) = (⟨#[]⟩, false) := by
      rw [bytesOf_cat, hw, b3, List.cons_append, List.nil_append, h1.odd]
      rfl
    refine Ev.bind (Ev.eq a1 (apply_ev s D (by omega) (by omega))) (Ev.ip (by omega) (Ev.bind (Ev.eq a2 (apply_ev (catS s more) D (by rw [size_cat]; omega) (by omega))) (Ev.ip (by omega) ?_)))
    refine Ev.bind (Ev.eq a3 (apply_ev s (catS D ⟨#[59]⟩) (by omega) (by rw [size_cat]; omega))) (Ev.ip (by omega) ?_)
    refine Ev.bind (Ev.eq a4 (apply_ev s (catS ⟨#[49]⟩ D) (by omega) (by rw [size_cat]; omega))) ?_
    exact Ev.ip rfl (Ev.ip rfl (Ev.ip rfl (Ev.ip rfl (Ev.nn (by decide) (Ev.nn (by decide) (Ev.bind runs5 (Ev.now _)))))))
  exact hgo
theorem parts_loop (ops : List Int) (hops : ops.length ≤ 9223372036854775807) (c : Int) (s : ByteArray) (hs0 : 21 ≤ s.size) (hs : s.size ≤ 1000) (z : Nat) : ∀ (i : Nat) (o d : ByteArray), i + z = 6 → o.size ≤ 20 * i → d.size ≤ 20 * i →
    Says (bytesOf s) (bytesOf d) (bytesOf o) → Says (bytesOf (catS s more)) (bytesOf d) (bytesOf o) → Ev (fun k => ammonitelaw3_DeltaParts.l0 k ops c s o d i) true := by
  induction z with
  | zero =>
    intro i o d hi ho hd h1 h2
    refine Ev.step (fun k => ammonitelaw3_DeltaParts.l0.eq_2 ops c s o d i k) ?_
    have e := parts_end ops c s o d i hs (by omega) (by omega) h1 h2
    by_cases g : (i : Int) < (ops.length : Int)
    · refine Ev.ip g ?_
      rw [decide_eq_false (show ¬ (i : Int) < 6 by omega)]
      exact e
    · exact Ev.nn g e
  | succ z ih =>
    intro i o d hi ho hd h1 h2
    refine Ev.step (fun k => ammonitelaw3_DeltaParts.l0.eq_2 ops c s o d i k) ?_
    by_cases g : (i : Int) < (ops.length : Int)
    · refine Ev.ip g ?_
      rw [decide_eq_true (show (i : Int) < 6 by omega)]
      obtain ⟨n, en, n0, n1⟩ := within_ev (rd ops i) (lo := 1) (hi := 20) (by omega) (by omega) (by omega)
      obtain ⟨n, rfl⟩ : ∃ m : Nat, n = m := ⟨n.toNat, by omega⟩
      have e0 : wrap64 ((s.size : Int) - (n : Int)) = (s.size : Int) - n := w64 (by omega) (by omega)
      obtain ⟨a, ea, a0, a1⟩ := within_ev (wrap64 (Int.tdiv (rd ops i) 20)) (lo := 0) (hi := (s.size : Int) - n) (by omega) (by omega) (by omega)
      obtain ⟨a, rfl⟩ : ∃ m : Nat, a = m := ⟨a.toNat, by omega⟩
      refine Ev.step (fun k => ammonitelaw3_DeltaParts.j1.eq_2 ops c s o d i true k) (Ev.ip rfl (Ev.ip (by omega) (Ev.ip (by omega) (Ev.cb en ?_))))
      rw [e0]
      refine Ev.cb ea ?_
      have ei : wrap64 ((i : Int) + 1) = ((i + 1 : Nat) : Int) := by rw [w64 (by omega) (by omega)]; omega
      rw [ei, wplus (i := a) (j := n) (by omega)]
      by_cases q : Go.bits .and .i64 (rd ops i) 1 = 1
      · refine Ev.ip q (Ev.cb rfl ?_)
        have sy : (strOfNums [c, (i : Int) % 256, 59, 64]).size = 4 := size_nums _
        have ly : (bytesOf (strOfNums [c, (i : Int) % 256, 59, 64])).length = 4 := by rw [size_len, sy]
        generalize strOfNums [c, (i : Int) % 256, 59, 64] = y at sy ly
        have s1 : (⟨#[52, 58]⟩ : ByteArray).size = 2 := rfl
        have b1 : bytesOf (catS (⟨#[52, 58]⟩ : ByteArray) y) = putL (bytesOf y).length ++ 58 :: bytesOf y := by
          rw [ly, putL_lt (by omega), bytesOf_cat]
          have e : dig 4 = 52 := by decide +kernel
          rw [e]
          rfl
        refine Ev.ip (by omega) (Ev.ip (by omega) (Ev.ip (by rw [size_cat]; omega) ?_))
        rw [cat_assoc]
        refine ih (i + 1) _ _ (by omega) (by simp only [size_cat, s1]; omega) (by simp only [size_cat, s1]; omega) ?_ ?_
        · rw [bytesOf_cat d, bytesOf_cat o, b1]
          exact h1.cat (Says.text _ _ (by omega) (by omega))
        · rw [bytesOf_cat d, bytesOf_cat o, b1]
          exact h2.cat (Says.text _ _ (by omega) (by omega))
      · refine Ev.nn q (Ev.ip (by omega) (Ev.ip (by omega) (Ev.ip (by omega) ?_)))
        rw [Int.toNat_natCast, Int.toNat_natCast]
        have su : (cutS s a (a + n)).size = a + n - a := size_cut (by omega)
        have hu : bytesOf (cutS s a (a + n)) = ((bytesOf s).drop a).take n := by rw [bytesOf_cut, Nat.add_sub_cancel_left]
        have hu2 : bytesOf (cutS s a (a + n)) = ((bytesOf (catS s more)).drop a).take n := by
          rw [hu, bytesOf_cat, List.drop_append_of_le_length (by rw [size_len]; omega), List.take_append_of_le_length (by rw [List.length_drop, size_len]; omega)]
        have ln : (putL n).length ≤ 2 := (putL_long n 2 (by omega)).2 (by omega)
        have la : (putL a).length ≤ 2 := (putL_long a 2 (by omega)).2 (by omega)
        have s1 : (⟨#[64]⟩ : ByteArray).size = 1 := rfl
        have s2 : (⟨#[44]⟩ : ByteArray).size = 1 := rfl
        have b1 : bytesOf ⟨#[64]⟩ = [64] := rfl
        have b2 : bytesOf ⟨#[44]⟩ = [44] := rfl
        refine Ev.ip (by omega) (Ev.bind (pput n (by omega)) (Ev.ip ?_ (Ev.ip ?_ (Ev.bind (pput a (by omega)) (Ev.ip ?_ (Ev.ip ?_ ?_))))))
        · simp only [size_put]; omega
        · simp only [size_cat, size_put]; omega
        · simp only [size_cat, size_put, s1]; omega
        · simp only [size_cat, size_put, s1]; omega
        have hd' : bytesOf (catS (catS (catS (catS d (putB n)) ⟨#[64]⟩) (putB a)) ⟨#[44]⟩) = bytesOf d ++ (putL n ++ 64 :: (putL a ++ [44])) := by
          simp only [bytesOf_cat, bytesOf_put, b1, b2, List.append_assoc, List.cons_append, List.nil_append]
        refine ih (i + 1) _ _ (by omega) (by rw [size_cat]; omega) (by simp only [size_cat, size_put, s1, s2]; omega) ?_ ?_
        · rw [hd', bytesOf_cat, hu]
          exact h1.cat (Says.copy _ n a (by omega) (by omega) (by omega) (by rw [size_len]; omega))
        · rw [hd', bytesOf_cat o, hu2]
          exact h2.cat (Says.copy _ n a (by omega) (by omega) (by omega) (by rw [size_len, size_cat]; omega))
    · exact Ev.nn g (parts_end ops c s o d i hs (by omega) (by omega) h1 h2)
theorem DeltaParts : ammonitelaw3_DeltaParts.Pure := by
  intro a0 l0 ops c _ hl0 _ hops _ _ _
  have hmax : maxLen = 9223372036854775807 := rfl
  obtain ⟨s, es, hs⟩ := text_ev a0 l0 (by omega)
  refine Ev.rounds (g := fun k => ammonitelaw3_DeltaParts.f k a0 l0 ops c) ?_
  unfold ammonitelaw3_DeltaParts.f
  refine Ev.bind es (Ev.ip (by omega) ?_)
  have s1 : (⟨#[115, 111, 109, 101, 32, 98, 121, 116, 101, 115, 32, 97, 116, 32, 116, 104, 101, 32, 101, 110, 100]⟩ : ByteArray).size = 21 := rfl
  exact parts_loop ops (by omega) c _ (by rw [size_cat]; omega) (by rw [size_cat]; omega) 6 0 ⟨#[]⟩ ⟨#[]⟩ (by omega) (by decide) (by decide) (Says.nil _) (Says.nil _)
end Go.Proofs.Ytcjkichimndioab.Pure
