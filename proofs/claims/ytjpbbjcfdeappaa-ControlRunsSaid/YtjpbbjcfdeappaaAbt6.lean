import Derived.Test.YtjpbbjcfdeappaaAbt5
import Derived.Test.YtjpbbjcfdeappaaProg
set_option linter.unusedVariables false
set_option linter.unusedSimpArgs false
set_option maxRecDepth 100000
namespace Go.Proofs.Ytjpbbjcfdeappaa.Ab
open Go Go.RowKit Go.Proofs
/-! ### ammonite/control.Right: function 17 -/
noncomputable def control_Right.tb (K : Nat) : Tb := [(41, ⟨[.bool, (.slice T25)], [.bool], checkin_RightTags.f K⟩), (42, ⟨[.str], [.bool], escape_Word.f K⟩)]
noncomputable def control_Right.its : Itb := []
noncomputable def control_Right.code : Code := (Try.f17.body).getD .skip
noncomputable def control_Right.nm : Nat → NormSpec := lookN []
noncomputable def control_Right.pre : Nat → Option NormSpec := lookP []
noncomputable def control_Right.E (K : Nat) : Env := ⟨lookR tys, bty, fullCall control_Right.its (control_Right.tb K) bids⟩
noncomputable def control_Right.ret (K : Nat) : St → Option (resT [.bool]).den := retA (control_Right.E K) [.bool] [(.tmp 2)]
noncomputable def control_Right.C (K : Nat) : CEnv (resT [.bool]).den := ⟨control_Right.E K, 27, K, control_Right.nm, control_Right.ret K, [], fun _ => false, control_Right.pre, lookG []⟩
noncomputable def control_Right.f (K : Nat) (x : (prodT [T28]).den) : Option (resT [.bool]).den := exec control_Right.code (control_Right.C K) (control_Right.ret K) (init [T28] x)
theorem control_Right.eq (K : Nat) (c0 : D28) : control_Right.f K (c0, ()) =
  ((bif (decide ((0 : Int) ≤ c0.1)) then
    (bif (decide (c0.1 ≤ (1073741824 : Int))) then
      (bif (decide ((0 : Int) < (List.length c0.2.1 : Int))) then
        ((checkin_RightTags.f K (false, c0.2.1, ())).bind fun v_1 =>
         (bif v_1 then
           ((escape_Word.f K (c0.2.2.1, ())).bind fun v_2 =>
            (some v_2))
         else
           (some false)))
      else
        (some false))
    else
      (some false))
  else
    (some false)) : Option Bool) := by kernel_rfl
theorem control_Right.tbOk (K : Nat) : TbOk Try.prog (control_Right.tb K) := by
  intro e he
  simp only [control_Right.tb, List.mem_cons, List.not_mem_nil, or_false] at he
  rcases he with rfl | rfl
  · exact ⟨checkin_RightTags.ok K, enters_of Try.func41 (by kernel_rfl) rfl⟩
  · exact ⟨escape_Word.ok K, enters_of Try.func42 (by kernel_rfl) rfl⟩
theorem control_Right.itsOk : ItbOk Try.prog control_Right.its := by
  intro e he
  simp only [control_Right.its, List.mem_cons, List.not_mem_nil, or_false] at he
theorem control_Right.ok (K : Nat) : PureC Try.prog 17 ⟨[T28], [.bool], control_Right.f K⟩ :=
  fn_sound (itOk _ _) (E := control_Right.E K) (full_ok tys_ok control_Right.itsOk (control_Right.tbOk K) par_ok bld_ok bty_ok) mixed Try.func17 (c := control_Right.code) (by kernel_rfl) (by kernel_rfl) (by decide) (by kernel_rfl)
/-! ### ammonite/control.Same: function 19 -/
noncomputable def control_Same.tb (K : Nat) : Tb := [(45, ⟨[(.slice T25), (.slice T25)], [.bool], slices_Equal_TagOp.f K⟩)]
noncomputable def control_Same.its : Itb := []
noncomputable def control_Same.code : Code := (Try.f19.body).getD .skip
noncomputable def control_Same.nm : Nat → NormSpec := lookN []
noncomputable def control_Same.pre : Nat → Option NormSpec := lookP []
noncomputable def control_Same.E (K : Nat) : Env := ⟨lookR tys, bty, fullCall control_Same.its (control_Same.tb K) bids⟩
noncomputable def control_Same.ret (K : Nat) : St → Option (resT [.bool]).den := retA (control_Same.E K) [.bool] [(.tmp 4)]
noncomputable def control_Same.C (K : Nat) : CEnv (resT [.bool]).den := ⟨control_Same.E K, 24, K, control_Same.nm, control_Same.ret K, [], fun _ => false, control_Same.pre, lookG []⟩
noncomputable def control_Same.f (K : Nat) (x : (prodT [T28, T28]).den) : Option (resT [.bool]).den := exec control_Same.code (control_Same.C K) (control_Same.ret K) (init [T28, T28] x)
theorem control_Same.eq (K : Nat) (a0 : D28) (b1 : D28) : control_Same.f K (a0, b1, ()) =
  ((bif (decide (a0.1 = b1.1)) then
    (bif (decide (a0.2.2.1 = b1.2.2.1)) then
      ((slices_Equal_TagOp.f K (a0.2.1, b1.2.1, ())).bind fun v_1 =>
       (some v_1))
    else
      (some false))
  else
    (some false)) : Option Bool) := by kernel_rfl
theorem control_Same.tbOk (K : Nat) : TbOk Try.prog (control_Same.tb K) := by
  intro e he
  simp only [control_Same.tb, List.mem_cons, List.not_mem_nil, or_false] at he
  rcases he with rfl
  · exact ⟨slices_Equal_TagOp.ok K, enters_of Try.func45 (by kernel_rfl) rfl⟩
theorem control_Same.itsOk : ItbOk Try.prog control_Same.its := by
  intro e he
  simp only [control_Same.its, List.mem_cons, List.not_mem_nil, or_false] at he
theorem control_Same.ok (K : Nat) : PureC Try.prog 19 ⟨[T28, T28], [.bool], control_Same.f K⟩ :=
  fn_sound (itOk _ _) (E := control_Same.E K) (full_ok tys_ok control_Same.itsOk (control_Same.tbOk K) par_ok bld_ok bty_ok) mixed Try.func19 (c := control_Same.code) (by kernel_rfl) (by kernel_rfl) (by decide) (by kernel_rfl)
/-! ### ammonite/control.Print: function 8 -/
noncomputable def control_Print.tb (K : Nat) : Tb := [(17, ⟨[T28], [.bool], control_Right.f K⟩), (22, ⟨[(.int .i64)], [.str], digit_Dec.f K⟩), (23, ⟨[(.slice T25)], [(.slice T61)], checkin_TagCards.f K⟩), (24, ⟨[(.slice T61)], [.str], card_Print.f K⟩)]
noncomputable def control_Print.its : Itb := []
noncomputable def control_Print.code : Code := (Try.f8.body).getD .skip
noncomputable def control_Print.nm : Nat → NormSpec := lookN []
noncomputable def control_Print.pre : Nat → Option NormSpec := lookP []
noncomputable def control_Print.E (K : Nat) : Env := ⟨lookR tys, bty, fullCall control_Print.its (control_Print.tb K) bids⟩
noncomputable def control_Print.ret (K : Nat) : St → Option (resT [.str]).den := retA (control_Print.E K) [.str] [(.tmp 2)]
noncomputable def control_Print.C (K : Nat) : CEnv (resT [.str]).den := ⟨control_Print.E K, 26, K, control_Print.nm, control_Print.ret K, [], fun _ => false, control_Print.pre, lookG []⟩
noncomputable def control_Print.f (K : Nat) (x : (prodT [T28]).den) : Option (resT [.str]).den := exec control_Print.code (control_Print.C K) (control_Print.ret K) (init [T28] x)
theorem control_Print.eq (K : Nat) (c0 : D28) : control_Print.f K (c0, ()) =
  (((control_Right.f K ((c0.1, (c0.2.1, (c0.2.2.1, ()))), ())).bind fun v_1 =>
   (bif (!v_1) then
     (some ([] : List UInt8))
   else
     ((digit_Dec.f K (c0.1, ())).bind fun v_2 =>
      ((checkin_TagCards.f K (c0.2.1, ())).bind fun v_3 =>
       (chks [(growOk (List.length ([((68 : Int), (([v_2] : List (List UInt8)), ()))] : List D61)) (List.length v_3) 32)]
        (chks [(growOk (List.length (([((68 : Int), (([v_2] : List (List UInt8)), ()))] : List D61) ++ v_3)) (List.length ([((85 : Int), (([c0.2.2.1] : List (List UInt8)), ()))] : List D61)) 32)]
         ((card_Print.f K (((([((68 : Int), (([v_2] : List (List UInt8)), ()))] : List D61) ++ v_3) ++ ([((85 : Int), (([c0.2.2.1] : List (List UInt8)), ()))] : List D61)), ())).bind fun v_4 =>
          (some v_4)))))))) : Option (List UInt8)) := by kernel_rfl
theorem control_Print.tbOk (K : Nat) : TbOk Try.prog (control_Print.tb K) := by
  intro e he
  simp only [control_Print.tb, List.mem_cons, List.not_mem_nil, or_false] at he
  rcases he with rfl | rfl | rfl | rfl
  · exact ⟨control_Right.ok K, enters_of Try.func17 (by kernel_rfl) rfl⟩
  · exact ⟨digit_Dec.ok K, enters_of Try.func22 (by kernel_rfl) rfl⟩
  · exact ⟨checkin_TagCards.ok K, enters_of Try.func23 (by kernel_rfl) rfl⟩
  · exact ⟨card_Print.ok K, enters_of Try.func24 (by kernel_rfl) rfl⟩
theorem control_Print.itsOk : ItbOk Try.prog control_Print.its := by
  intro e he
  simp only [control_Print.its, List.mem_cons, List.not_mem_nil, or_false] at he
theorem control_Print.ok (K : Nat) : PureC Try.prog 8 ⟨[T28], [.str], control_Print.f K⟩ :=
  fn_sound (itOk _ _) (E := control_Print.E K) (full_ok tys_ok control_Print.itsOk (control_Print.tbOk K) par_ok bld_ok bty_ok) mixed Try.func8 (c := control_Print.code) (by kernel_rfl) (by kernel_rfl) (by decide) (by kernel_rfl)
/-! ### ammonite/control.Read: function 9 -/
noncomputable def control_Read.tb (K : Nat) : Tb := [(25, ⟨[.str], [(.slice T61), .bool], card_Read.f K⟩), (26, ⟨[(.slice T61)], [(.slice T25), .bool], checkin_ReadTags.f K⟩), (8, ⟨[T28], [.str], control_Print.f K⟩), (27, ⟨[.str], [(.int .i64), .bool], digit_ReadDec.f K⟩)]
noncomputable def control_Read.its : Itb := []
noncomputable def control_Read.code : Code := (Try.f9.body).getD .skip
noncomputable def control_Read.nm : Nat → NormSpec := lookN [(10, ⟨[(0, (.data .str)), (2, .raw), (4, .raw), (28, (.data (.slice T61))), (29, (.data (.int .i64))), (30, (.data (.int .i64)))], [(2, [(.data (.int .i64)), .raw, (.data .str)]), (4, [(.data (.int .i64)), (.data (.slice T25)), (.data .str)])], []⟩)]
noncomputable def control_Read.pre : Nat → Option NormSpec := lookP []
noncomputable def control_Read.E (K : Nat) : Env := ⟨lookR tys, bty, fullCall control_Read.its (control_Read.tb K) bids⟩
noncomputable def control_Read.ret (K : Nat) : St → Option (resT [T28, .bool]).den := retA (control_Read.E K) [T28, .bool] [(.cell 2 28), (.tmp 3)]
noncomputable def control_Read.C (K : Nat) : CEnv (resT [T28, .bool]).den := ⟨control_Read.E K, 67, K, control_Read.nm, control_Read.ret K, [], fun _ => false, control_Read.pre, lookG []⟩
noncomputable def control_Read.f (K : Nat) (x : (prodT [.str]).den) : Option (resT [T28, .bool]).den := exec control_Read.code (control_Read.C K) (control_Read.ret K) (init [.str] x)
noncomputable def control_Read.m10 (s0 : (List UInt8)) (t28 : (List D61)) (t29 : Int) (t30 : Int) (bt2_0 : Int) (bt2_2 : (List UInt8)) (bc4_0 : Int) (bc4_1 : (List D25)) (bc4_2 : (List UInt8)) : St := mkSt [(0, (.d .str (s0 : (List UInt8)))), (2, (.ptr 2 0)), (4, (.ptr 4 0)), (28, (.d (.slice T61) (t28 : (List D61)))), (29, (.d (.int .i64) (t29 : Int))), (30, (.d (.int .i64) (t30 : Int)))] [(2, (.box [(.d (.int .i64) (bt2_0 : Int)), .nils, (.d .str (bt2_2 : (List UInt8)))])), (4, (.box [(.d (.int .i64) (bc4_0 : Int)), (.d (.slice T25) (bc4_1 : (List D25))), (.d .str (bc4_2 : (List UInt8)))]))]
noncomputable def control_Read.r10 (K : Nat)  (n : Nat) : St → Option (D28 × Bool × Unit) := loopAt [.r, .s, .r, .r, .r, .r, .r, .r, .r, .l, .r, .b] control_Read.code (control_Read.C K) (control_Read.ret K) [] n
noncomputable def control_Read.l10 (K : Nat)  (n : Nat) (s0 : (List UInt8)) (t28 : (List D61)) (t29 : Int) (t30 : Int) (bt2_0 : Int) (bt2_2 : (List UInt8)) (bc4_0 : Int) (bc4_1 : (List D25)) (bc4_2 : (List UInt8)) : Option (D28 × Bool × Unit) := control_Read.r10 K n (control_Read.m10 s0 t28 t29 t30 bt2_0 bt2_2 bc4_0 bc4_1 bc4_2)
theorem control_Read.eq (K : Nat) (s0 : (List UInt8)) : control_Read.f K (s0, ()) =
  (((card_Read.f K (s0, ())).bind fun v_1 =>
   (bif (!v_1.2.1) then
     (some ((0, (([] : (List D25)), ([], ()))), false, ()))
   else
     ((checkin_ReadTags.f K (v_1.1, ())).bind fun v_2 =>
      (bif (!v_2.2.1) then
        (some ((0, (([] : (List D25)), ([], ()))), false, ()))
      else
        (control_Read.l10 K K s0 v_1.1 (List.length v_1.1 : Int) (0 : Int) 0 [] 0 v_2.1 []))))) : Option (D28 × Bool × Unit)) := by kernel_rfl
theorem control_Read.l10_succ (K : Nat)  (n : Nat) (s0 : (List UInt8)) (t28 : (List D61)) (t29 : Int) (t30 : Int) (bt2_0 : Int) (bt2_2 : (List UInt8)) (bc4_0 : Int) (bc4_1 : (List D25)) (bc4_2 : (List UInt8)) : control_Read.l10 K (n + 1) s0 t28 t29 t30 bt2_0 bt2_2 bc4_0 bc4_1 bc4_2 =
  ((bif (decide (t30 < t29)) then
    (chks [(decide ((0 : Int) ≤ t30)), (decide (t30 < (List.length t28 : Int)))]
     (bif (decide ((List.length (List.getD t28 (Int.toNat t30) (DTy.dflt T61)).2.1 : Int) = (0 : Int))) then
       ((control_Print.f K ((bc4_0, (bc4_1, (bc4_2, ()))), ())).bind fun v_1 =>
        (bif (!(decide (v_1 = s0))) then
          (some ((0, (([] : (List D25)), ([], ()))), false, ()))
        else
          (some ((bc4_0, (bc4_1, (bc4_2, ()))), true, ()))))
     else
       (bif (decide ((List.getD t28 (Int.toNat t30) (DTy.dflt T61)).1 = (68 : Int))) then
         (chks [(decide ((0 : Int) < (List.length (List.getD t28 (Int.toNat t30) (DTy.dflt T61)).2.1 : Int)))]
          ((digit_ReadDec.f K ((List.getD (List.getD t28 (Int.toNat t30) (DTy.dflt T61)).2.1 (Int.toNat (0 : Int)) (DTy.dflt .str)), ())).bind fun v_2 =>
           (bif (!v_2.2.1) then
             ((control_Print.f K ((v_2.1, (bc4_1, (bc4_2, ()))), ())).bind fun v_3 =>
              (bif (!(decide (v_3 = s0))) then
                (some ((0, (([] : (List D25)), ([], ()))), false, ()))
              else
                (some ((v_2.1, (bc4_1, (bc4_2, ()))), true, ()))))
           else
             (control_Read.l10 K n s0 t28 t29 (IntKind.wrap .i64 (t30 + (1 : Int))) bt2_0 bt2_2 v_2.1 bc4_1 bc4_2))))
       else
         (bif (decide ((List.getD t28 (Int.toNat t30) (DTy.dflt T61)).1 = (85 : Int))) then
           (chks [(decide ((0 : Int) < (List.length (List.getD t28 (Int.toNat t30) (DTy.dflt T61)).2.1 : Int)))]
            (control_Read.l10 K n s0 t28 t29 (IntKind.wrap .i64 (t30 + (1 : Int))) bt2_0 bt2_2 bc4_0 bc4_1 (List.getD (List.getD t28 (Int.toNat t30) (DTy.dflt T61)).2.1 (Int.toNat (0 : Int)) (DTy.dflt .str))))
         else
           (control_Read.l10 K n s0 t28 t29 (IntKind.wrap .i64 (t30 + (1 : Int))) bt2_0 bt2_2 bc4_0 bc4_1 bc4_2)))))
  else
    ((control_Print.f K ((bc4_0, (bc4_1, (bc4_2, ()))), ())).bind fun v_4 =>
     (bif (!(decide (v_4 = s0))) then
       (some ((0, (([] : (List D25)), ([], ()))), false, ()))
     else
       (some ((bc4_0, (bc4_1, (bc4_2, ()))), true, ()))))) : Option (D28 × Bool × Unit)) := by kernel_rfl
theorem control_Read.tbOk (K : Nat) : TbOk Try.prog (control_Read.tb K) := by
  intro e he
  simp only [control_Read.tb, List.mem_cons, List.not_mem_nil, or_false] at he
  rcases he with rfl | rfl | rfl | rfl
  · exact ⟨card_Read.ok K, enters_of Try.func25 (by kernel_rfl) rfl⟩
  · exact ⟨checkin_ReadTags.ok K, enters_of Try.func26 (by kernel_rfl) rfl⟩
  · exact ⟨control_Print.ok K, enters_of Try.func8 (by kernel_rfl) rfl⟩
  · exact ⟨digit_ReadDec.ok K, enters_of Try.func27 (by kernel_rfl) rfl⟩
theorem control_Read.itsOk : ItbOk Try.prog control_Read.its := by
  intro e he
  simp only [control_Read.its, List.mem_cons, List.not_mem_nil, or_false] at he
theorem control_Read.ok (K : Nat) : PureC Try.prog 9 ⟨[.str], [T28, .bool], control_Read.f K⟩ :=
  fn_sound (itOk _ _) (E := control_Read.E K) (full_ok tys_ok control_Read.itsOk (control_Read.tbOk K) par_ok bld_ok bty_ok) mixed Try.func9 (c := control_Read.code) (by kernel_rfl) (by kernel_rfl) (by decide) (by kernel_rfl)
/-! ### ammonite/ammoniteref10.RightControl: function 18 -/
noncomputable def ammoniteref10_RightControl.tb (K : Nat) : Tb := [(43, ⟨[.str], [.bool], ammoniteref10_Word.f K⟩), (44, ⟨[(.slice T25), .bool], [.bool], ammoniteref10_rightOps.f K⟩)]
noncomputable def ammoniteref10_RightControl.its : Itb := []
noncomputable def ammoniteref10_RightControl.code : Code := (Try.f18.body).getD .skip
noncomputable def ammoniteref10_RightControl.nm : Nat → NormSpec := lookN []
noncomputable def ammoniteref10_RightControl.pre : Nat → Option NormSpec := lookP []
noncomputable def ammoniteref10_RightControl.E (K : Nat) : Env := ⟨lookR tys, bty, fullCall ammoniteref10_RightControl.its (ammoniteref10_RightControl.tb K) bids⟩
noncomputable def ammoniteref10_RightControl.ret (K : Nat) : St → Option (resT [.bool]).den := retA (ammoniteref10_RightControl.E K) [.bool] [(.tmp 2)]
noncomputable def ammoniteref10_RightControl.C (K : Nat) : CEnv (resT [.bool]).den := ⟨ammoniteref10_RightControl.E K, 27, K, ammoniteref10_RightControl.nm, ammoniteref10_RightControl.ret K, [], fun _ => false, ammoniteref10_RightControl.pre, lookG []⟩
noncomputable def ammoniteref10_RightControl.f (K : Nat) (x : (prodT [T28]).den) : Option (resT [.bool]).den := exec ammoniteref10_RightControl.code (ammoniteref10_RightControl.C K) (ammoniteref10_RightControl.ret K) (init [T28] x)
theorem ammoniteref10_RightControl.eq (K : Nat) (c0 : D28) : ammoniteref10_RightControl.f K (c0, ()) =
  ((bif (decide ((0 : Int) ≤ c0.1)) then
    (bif (decide (c0.1 ≤ (1073741824 : Int))) then
      ((ammoniteref10_Word.f K (c0.2.2.1, ())).bind fun v_1 =>
       (bif v_1 then
         (bif (decide ((1 : Int) ≤ (List.length c0.2.1 : Int))) then
           ((ammoniteref10_rightOps.f K (c0.2.1, false, ())).bind fun v_2 =>
            (some v_2))
         else
           (some false))
       else
         (some false)))
    else
      (some false))
  else
    (some false)) : Option Bool) := by kernel_rfl
theorem ammoniteref10_RightControl.tbOk (K : Nat) : TbOk Try.prog (ammoniteref10_RightControl.tb K) := by
  intro e he
  simp only [ammoniteref10_RightControl.tb, List.mem_cons, List.not_mem_nil, or_false] at he
  rcases he with rfl | rfl
  · exact ⟨ammoniteref10_Word.ok K, enters_of Try.func43 (by kernel_rfl) rfl⟩
  · exact ⟨ammoniteref10_rightOps.ok K, enters_of Try.func44 (by kernel_rfl) rfl⟩
theorem ammoniteref10_RightControl.itsOk : ItbOk Try.prog ammoniteref10_RightControl.its := by
  intro e he
  simp only [ammoniteref10_RightControl.its, List.mem_cons, List.not_mem_nil, or_false] at he
theorem ammoniteref10_RightControl.ok (K : Nat) : PureC Try.prog 18 ⟨[T28], [.bool], ammoniteref10_RightControl.f K⟩ :=
  fn_sound (itOk _ _) (E := ammoniteref10_RightControl.E K) (full_ok tys_ok ammoniteref10_RightControl.itsOk (ammoniteref10_RightControl.tbOk K) par_ok bld_ok bty_ok) mixed Try.func18 (c := ammoniteref10_RightControl.code) (by kernel_rfl) (by kernel_rfl) (by decide) (by kernel_rfl)
/-! ### ammonite/ammoniteref10.Control: function 10 -/
noncomputable def ammoniteref10_Control.tb (K : Nat) : Tb := [(28, ⟨[(.int .i64)], [.str], ammoniteref1_Dec.f K⟩), (29, ⟨[(.slice T25)], [(.slice T61)], ammoniteref10_ops.f K⟩), (30, ⟨[(.slice T61)], [.str], ammoniteref10_Print.f K⟩)]
noncomputable def ammoniteref10_Control.its : Itb := []
noncomputable def ammoniteref10_Control.code : Code := (Try.f10.body).getD .skip
noncomputable def ammoniteref10_Control.nm : Nat → NormSpec := lookN []
noncomputable def ammoniteref10_Control.pre : Nat → Option NormSpec := lookP []
noncomputable def ammoniteref10_Control.E (K : Nat) : Env := ⟨lookR tys, bty, fullCall ammoniteref10_Control.its (ammoniteref10_Control.tb K) bids⟩
noncomputable def ammoniteref10_Control.ret (K : Nat) : St → Option (resT [.str]).den := retA (ammoniteref10_Control.E K) [.str] [(.tmp 2)]
noncomputable def ammoniteref10_Control.C (K : Nat) : CEnv (resT [.str]).den := ⟨ammoniteref10_Control.E K, 22, K, ammoniteref10_Control.nm, ammoniteref10_Control.ret K, [], fun _ => false, ammoniteref10_Control.pre, lookG []⟩
noncomputable def ammoniteref10_Control.f (K : Nat) (x : (prodT [T28]).den) : Option (resT [.str]).den := exec ammoniteref10_Control.code (ammoniteref10_Control.C K) (ammoniteref10_Control.ret K) (init [T28] x)
theorem ammoniteref10_Control.eq (K : Nat) (c0 : D28) : ammoniteref10_Control.f K (c0, ()) =
  (((ammoniteref1_Dec.f K (c0.1, ())).bind fun v_1 =>
   ((ammoniteref10_ops.f K (c0.2.1, ())).bind fun v_2 =>
    (chks [(growOk (List.length ([((68 : Int), (([v_1] : List (List UInt8)), ()))] : List D61)) (List.length v_2) 32)]
     (chks [(growOk (List.length (([((68 : Int), (([v_1] : List (List UInt8)), ()))] : List D61) ++ v_2)) (List.length ([((85 : Int), (([c0.2.2.1] : List (List UInt8)), ()))] : List D61)) 32)]
      ((ammoniteref10_Print.f K (((([((68 : Int), (([v_1] : List (List UInt8)), ()))] : List D61) ++ v_2) ++ ([((85 : Int), (([c0.2.2.1] : List (List UInt8)), ()))] : List D61)), ())).bind fun v_3 =>
       (some v_3)))))) : Option (List UInt8)) := by kernel_rfl
theorem ammoniteref10_Control.tbOk (K : Nat) : TbOk Try.prog (ammoniteref10_Control.tb K) := by
  intro e he
  simp only [ammoniteref10_Control.tb, List.mem_cons, List.not_mem_nil, or_false] at he
  rcases he with rfl | rfl | rfl
  · exact ⟨ammoniteref1_Dec.ok K, enters_of Try.func28 (by kernel_rfl) rfl⟩
  · exact ⟨ammoniteref10_ops.ok K, enters_of Try.func29 (by kernel_rfl) rfl⟩
  · exact ⟨ammoniteref10_Print.ok K, enters_of Try.func30 (by kernel_rfl) rfl⟩
theorem ammoniteref10_Control.itsOk : ItbOk Try.prog ammoniteref10_Control.its := by
  intro e he
  simp only [ammoniteref10_Control.its, List.mem_cons, List.not_mem_nil, or_false] at he
theorem ammoniteref10_Control.ok (K : Nat) : PureC Try.prog 10 ⟨[T28], [.str], ammoniteref10_Control.f K⟩ :=
  fn_sound (itOk _ _) (E := ammoniteref10_Control.E K) (full_ok tys_ok ammoniteref10_Control.itsOk (ammoniteref10_Control.tbOk K) par_ok bld_ok bty_ok) mixed Try.func10 (c := ammoniteref10_Control.code) (by kernel_rfl) (by kernel_rfl) (by decide) (by kernel_rfl)
/-! ### ammonite/ammoniteref10.ReadControl: function 15 -/
/-! ### ammonite/ammonitekeep.Controls: function 16 -/
noncomputable def ammonitekeep_Controls.tb (K : Nat) : Tb := [(40, ⟨[(.slice T25), (.slice T25)], [.bool], ammonitebook_Same_TagOp.f K⟩)]
noncomputable def ammonitekeep_Controls.its : Itb := []
noncomputable def ammonitekeep_Controls.code : Code := (Try.f16.body).getD .skip
noncomputable def ammonitekeep_Controls.nm : Nat → NormSpec := lookN []
noncomputable def ammonitekeep_Controls.pre : Nat → Option NormSpec := lookP []
noncomputable def ammonitekeep_Controls.E (K : Nat) : Env := ⟨lookR tys, bty, fullCall ammonitekeep_Controls.its (ammonitekeep_Controls.tb K) bids⟩
noncomputable def ammonitekeep_Controls.ret (K : Nat) : St → Option (resT [.bool]).den := retA (ammonitekeep_Controls.E K) [.bool] [(.tmp 4)]
noncomputable def ammonitekeep_Controls.C (K : Nat) : CEnv (resT [.bool]).den := ⟨ammonitekeep_Controls.E K, 24, K, ammonitekeep_Controls.nm, ammonitekeep_Controls.ret K, [], fun _ => false, ammonitekeep_Controls.pre, lookG []⟩
noncomputable def ammonitekeep_Controls.f (K : Nat) (x : (prodT [T28, T28]).den) : Option (resT [.bool]).den := exec ammonitekeep_Controls.code (ammonitekeep_Controls.C K) (ammonitekeep_Controls.ret K) (init [T28, T28] x)
theorem ammonitekeep_Controls.eq (K : Nat) (a0 : D28) (b1 : D28) : ammonitekeep_Controls.f K (a0, b1, ()) =
  ((bif (decide (a0.1 = b1.1)) then
    (bif (decide (a0.2.2.1 = b1.2.2.1)) then
      ((ammonitebook_Same_TagOp.f K (a0.2.1, b1.2.1, ())).bind fun v_1 =>
       (some v_1))
    else
      (some false))
  else
    (some false)) : Option Bool) := by kernel_rfl
theorem ammonitekeep_Controls.tbOk (K : Nat) : TbOk Try.prog (ammonitekeep_Controls.tb K) := by
  intro e he
  simp only [ammonitekeep_Controls.tb, List.mem_cons, List.not_mem_nil, or_false] at he
  rcases he with rfl
  · exact ⟨ammonitebook_Same_TagOp.ok K, enters_of Try.func40 (by kernel_rfl) rfl⟩
theorem ammonitekeep_Controls.itsOk : ItbOk Try.prog ammonitekeep_Controls.its := by
  intro e he
  simp only [ammonitekeep_Controls.its, List.mem_cons, List.not_mem_nil, or_false] at he
theorem ammonitekeep_Controls.ok (K : Nat) : PureC Try.prog 16 ⟨[T28, T28], [.bool], ammonitekeep_Controls.f K⟩ :=
  fn_sound (itOk _ _) (E := ammonitekeep_Controls.E K) (full_ok tys_ok ammonitekeep_Controls.itsOk (ammonitekeep_Controls.tbOk K) par_ok bld_ok bty_ok) mixed Try.func16 (c := ammonitekeep_Controls.code) (by kernel_rfl) (by kernel_rfl) (by decide) (by kernel_rfl)
/-! ### ammonite/ammonitelaw13.ControlRuns: function 3 -/
noncomputable def ammonitelaw13_ControlRuns.tb (K : Nat) : Tb := [(7, ⟨[.str], [.str], ammoniteref1_Sum.f K⟩), (8, ⟨[T28], [.str], control_Print.f K⟩), (9, ⟨[.str], [T28, .bool], control_Read.f K⟩)]
noncomputable def ammonitelaw13_ControlRuns.its : Itb := []
noncomputable def ammonitelaw13_ControlRuns.code : Code := (Try.f3.body).getD .skip
noncomputable def ammonitelaw13_ControlRuns.nm : Nat → NormSpec := lookN []
noncomputable def ammonitelaw13_ControlRuns.pre : Nat → Option NormSpec := lookP []
noncomputable def ammonitelaw13_ControlRuns.E (K : Nat) : Env := ⟨lookR tys, bty, fullCall ammonitelaw13_ControlRuns.its (ammonitelaw13_ControlRuns.tb K) bids⟩
noncomputable def ammonitelaw13_ControlRuns.ret (K : Nat) : St → Option (resT [.bool]).den := retA (ammonitelaw13_ControlRuns.E K) [.bool] [(.tmp 0)]
noncomputable def ammonitelaw13_ControlRuns.C (K : Nat) : CEnv (resT [.bool]).den := ⟨ammonitelaw13_ControlRuns.E K, 47, K, ammonitelaw13_ControlRuns.nm, ammonitelaw13_ControlRuns.ret K, [], fun _ => false, ammonitelaw13_ControlRuns.pre, lookG []⟩
noncomputable def ammonitelaw13_ControlRuns.f (K : Nat) (x : (prodT []).den) : Option (resT [.bool]).den := exec ammonitelaw13_ControlRuns.code (ammonitelaw13_ControlRuns.C K) (ammonitelaw13_ControlRuns.ret K) (init [] x)
theorem ammonitelaw13_ControlRuns.eq (K : Nat)  : ammonitelaw13_ControlRuns.f K (()) =
  (((ammoniteref1_Sum.f K (([120] : List UInt8), ())).bind fun v_1 =>
   ((control_Print.f K (((7 : Int), (([((43 : Int), (([97] : List UInt8), (v_1, ([], ()))))] : List D25), (([109, 101] : List UInt8), ()))), ())).bind fun v_2 =>
    ((control_Read.f K (v_2, ())).bind fun v_3 =>
     (bif (decide ((List.length v_2 : Int) = (98 : Int))) then
       (chks [(decide ((6 : Int) ≤ (List.length v_2 : Int)))]
        (bif (decide ((cutL v_2 none (some (6 : Int))) = ([68, 32, 55, 10, 84, 32] : List UInt8))) then
          (bif v_3.2.1 then
            (bif (decide ((List.length v_3.1.2.1 : Int) = (1 : Int))) then
              (chks [(decide ((0 : Int) < (List.length v_3.1.2.1 : Int)))]
               (bif (decide ((List.getD v_3.1.2.1 (Int.toNat (0 : Int)) (DTy.dflt T25)).2.2.1 = v_1)) then
                 ((control_Print.f K ((0, (([] : (List D25)), ([], ()))), ())).bind fun v_4 =>
                  (some (decide (v_4 = ([] : List UInt8)))))
               else
                 (some false)))
            else
              (some false))
          else
            (some false))
        else
          (some false)))
     else
       (some false))))) : Option Bool) := by kernel_rfl
theorem ammonitelaw13_ControlRuns.tbOk (K : Nat) : TbOk Try.prog (ammonitelaw13_ControlRuns.tb K) := by
  intro e he
  simp only [ammonitelaw13_ControlRuns.tb, List.mem_cons, List.not_mem_nil, or_false] at he
  rcases he with rfl | rfl | rfl
  · exact ⟨ammoniteref1_Sum.ok K, enters_of Try.func7 (by kernel_rfl) rfl⟩
  · exact ⟨control_Print.ok K, enters_of Try.func8 (by kernel_rfl) rfl⟩
  · exact ⟨control_Read.ok K, enters_of Try.func9 (by kernel_rfl) rfl⟩
theorem ammonitelaw13_ControlRuns.itsOk : ItbOk Try.prog ammonitelaw13_ControlRuns.its := by
  intro e he
  simp only [ammonitelaw13_ControlRuns.its, List.mem_cons, List.not_mem_nil, or_false] at he
theorem ammonitelaw13_ControlRuns.ok (K : Nat) : PureC Try.prog 3 ⟨[], [.bool], ammonitelaw13_ControlRuns.f K⟩ :=
  fn_sound (itOk _ _) (E := ammonitelaw13_ControlRuns.E K) (full_ok tys_ok ammonitelaw13_ControlRuns.itsOk (ammonitelaw13_ControlRuns.tbOk K) par_ok bld_ok bty_ok) mixed Try.func3 (c := ammonitelaw13_ControlRuns.code) (by kernel_rfl) (by kernel_rfl) (by decide) (by kernel_rfl)
/-! ### ammonite/ammonitelaw13.ControlTells: function 5 -/
noncomputable def ammonitelaw13_ControlTells.tb (K : Nat) : Tb := [(11, ⟨[T34], [T28], ammonitekeep_Control_Control.f K⟩), (18, ⟨[T28], [.bool], ammoniteref10_RightControl.f K⟩), (8, ⟨[T28], [.str], control_Print.f K⟩), (17, ⟨[T28], [.bool], control_Right.f K⟩), (19, ⟨[T28, T28], [.bool], control_Same.f K⟩), (16, ⟨[T28, T28], [.bool], ammonitekeep_Controls.f K⟩), (3, ⟨[], [.bool], ammonitelaw13_ControlRuns.f K⟩), (9, ⟨[.str], [T28, .bool], control_Read.f K⟩), (10, ⟨[T28], [.str], ammoniteref10_Control.f K⟩)]
noncomputable def ammonitelaw13_ControlTells.its : Itb := []
noncomputable def ammonitelaw13_ControlTells.code : Code := (Try.f5.body).getD .skip
noncomputable def ammonitelaw13_ControlTells.nm : Nat → NormSpec := lookN []
noncomputable def ammonitelaw13_ControlTells.pre : Nat → Option NormSpec := lookP [(5, ⟨[(3, (.data .bool)), (6, .raw), (9, .raw)], [(6, [(.data (.int .i64)), (.data (.int .i64)), (.data (.slice (.int .i64))), (.data (.slice (.int .i64)))]), (9, [(.data (.int .i64)), (.data (.slice T25)), (.data .str)])], []⟩), (10, ⟨[(9, .raw), (10, .raw), (11, (.data .bool)), (12, (.data .str))], [(9, [(.data (.int .i64)), (.data (.slice T25)), (.data .str)]), (10, [(.data (.int .i64)), (.data (.slice T25)), (.data .str)])], []⟩)]
noncomputable def ammonitelaw13_ControlTells.E (K : Nat) : Env := ⟨lookR tys, bty, fullCall ammonitelaw13_ControlTells.its (ammonitelaw13_ControlTells.tb K) bids⟩
noncomputable def ammonitelaw13_ControlTells.ret (K : Nat) : St → Option (resT [.bool]).den := retA (ammonitelaw13_ControlTells.E K) [.bool] [(.tmp 8)]
noncomputable def ammonitelaw13_ControlTells.C (K : Nat) : CEnv (resT [.bool]).den := ⟨ammonitelaw13_ControlTells.E K, 92, K, ammonitelaw13_ControlTells.nm, ammonitelaw13_ControlTells.ret K, [], fun _ => false, ammonitelaw13_ControlTells.pre, lookG [(5, 0), (10, 1)]⟩
noncomputable def ammonitelaw13_ControlTells.f (K : Nat) (x : (prodT [T28, T34, T34, .bool]).den) : Option (resT [.bool]).den := exec ammonitelaw13_ControlTells.code (ammonitelaw13_ControlTells.C K) (ammonitelaw13_ControlTells.ret K) (init [T28, T34, T34, .bool] x)
noncomputable def ammonitelaw13_ControlTells.mj5 (own3 : Bool) (bo6_0 : Int) (bo6_1 : Int) (bo6_2 : (List Int)) (bo6_3 : (List Int)) (bc9_0 : Int) (bc9_1 : (List D25)) (bc9_2 : (List UInt8)) : St := mkSt [(3, (.d .bool (own3 : Bool))), (6, (.ptr 6 0)), (9, (.ptr 9 0))] [(6, (.box [(.d (.int .i64) (bo6_0 : Int)), (.d (.int .i64) (bo6_1 : Int)), (.d (.slice (.int .i64)) (bo6_2 : (List Int))), (.d (.slice (.int .i64)) (bo6_3 : (List Int)))])), (9, (.box [(.d (.int .i64) (bc9_0 : Int)), (.d (.slice T25) (bc9_1 : (List D25))), (.d .str (bc9_2 : (List UInt8)))]))]
noncomputable def ammonitelaw13_ControlTells.j5 (K : Nat)  (own3 : Bool) (bo6_0 : Int) (bo6_1 : Int) (bo6_2 : (List Int)) (bo6_3 : (List Int)) (bc9_0 : Int) (bc9_1 : (List D25)) (bc9_2 : (List UInt8)) : Option Bool := pointAt [.r, .r, .r, .r, .l] ammonitelaw13_ControlTells.code (ammonitelaw13_ControlTells.C K) (ammonitelaw13_ControlTells.ret K) [] (ammonitelaw13_ControlTells.mj5 own3 bo6_0 bo6_1 bo6_2 bo6_3 bc9_0 bc9_1 bc9_2)
noncomputable def ammonitelaw13_ControlTells.mj10 (right11 : Bool) (s12 : (List UInt8)) (bc9_0 : Int) (bc9_1 : (List D25)) (bc9_2 : (List UInt8)) (bd10_0 : Int) (bd10_1 : (List D25)) (bd10_2 : (List UInt8)) : St := mkSt [(9, (.ptr 9 0)), (10, (.ptr 10 0)), (11, (.d .bool (right11 : Bool))), (12, (.d .str (s12 : (List UInt8))))] [(9, (.box [(.d (.int .i64) (bc9_0 : Int)), (.d (.slice T25) (bc9_1 : (List D25))), (.d .str (bc9_2 : (List UInt8)))])), (10, (.box [(.d (.int .i64) (bd10_0 : Int)), (.d (.slice T25) (bd10_1 : (List D25))), (.d .str (bd10_2 : (List UInt8)))]))]
noncomputable def ammonitelaw13_ControlTells.j10 (K : Nat)  (right11 : Bool) (s12 : (List UInt8)) (bc9_0 : Int) (bc9_1 : (List D25)) (bc9_2 : (List UInt8)) (bd10_0 : Int) (bd10_1 : (List D25)) (bd10_2 : (List UInt8)) : Option Bool := pointAt [.r, .r, .r, .r, .r, .r, .r, .r, .l, .l] ammonitelaw13_ControlTells.code (ammonitelaw13_ControlTells.C K) (ammonitelaw13_ControlTells.ret K) [] (ammonitelaw13_ControlTells.mj10 right11 s12 bc9_0 bc9_1 bc9_2 bd10_0 bd10_1 bd10_2)
theorem ammonitelaw13_ControlTells.eq (K : Nat) (raw0 : D28) (k1 : D34) (o2 : D34) (own3 : Bool) : ammonitelaw13_ControlTells.f K (raw0, k1, o2, own3, ()) =
  ((chks [(decide ((0 : Int) ≤ (if (5 : Int) < (List.length raw0.2.1 : Int) then (5 : Int) else (List.length raw0.2.1 : Int)))), (decide ((if (5 : Int) < (List.length raw0.2.1 : Int) then (5 : Int) else (List.length raw0.2.1 : Int)) ≤ (List.length raw0.2.1 : Int)))]
   (bif own3 then
     ((ammonitekeep_Control_Control.f K ((k1.1, (k1.2.1, (k1.2.2.1, (k1.2.2.2.1, ())))), ())).bind fun v_1 =>
      (ammonitelaw13_ControlTells.j5 K own3 o2.1 o2.2.1 o2.2.2.1 o2.2.2.2.1 v_1.1 v_1.2.1 v_1.2.2.1))
   else
     (ammonitelaw13_ControlTells.j5 K own3 o2.1 o2.2.1 o2.2.2.1 o2.2.2.2.1 raw0.1 (cutL raw0.2.1 none (some (if (5 : Int) < (List.length raw0.2.1 : Int) then (5 : Int) else (List.length raw0.2.1 : Int)))) raw0.2.2.1))) : Option Bool) := by kernel_rfl
theorem ammonitelaw13_ControlTells.j5_eq {K : Nat} (hK : 1000 ≤ K)  (own3 : Bool) (bo6_0 : Int) (bo6_1 : Int) (bo6_2 : (List Int)) (bo6_3 : (List Int)) (bc9_0 : Int) (bc9_1 : (List D25)) (bc9_2 : (List UInt8)) : ammonitelaw13_ControlTells.j5 K own3 bo6_0 bo6_1 bo6_2 bo6_3 bc9_0 bc9_1 bc9_2 =
  (((ammonitekeep_Control_Control.f K ((bo6_0, (bo6_1, (bo6_2, (bo6_3, ())))), ())).bind fun v_1 =>
   ((ammoniteref10_RightControl.f K ((bc9_0, (bc9_1, (bc9_2, ()))), ())).bind fun v_2 =>
    ((control_Print.f K ((bc9_0, (bc9_1, (bc9_2, ()))), ())).bind fun v_3 =>
     ((control_Right.f K ((bc9_0, (bc9_1, (bc9_2, ()))), ())).bind fun v_4 =>
      (bif (!(v_4 == v_2)) then
        (some false)
      else
        (bif (!((!(decide (v_3 = ([] : List UInt8)))) == v_2)) then
          (some false)
        else
          (bif own3 then
            (bif (!v_2) then
              (some false)
            else
              ((control_Same.f K ((bc9_0, (bc9_1, (bc9_2, ()))), (v_1.1, (v_1.2.1, (v_1.2.2.1, ()))), ())).bind fun v_5 =>
               ((ammonitekeep_Controls.f K ((bc9_0, (bc9_1, (bc9_2, ()))), (v_1.1, (v_1.2.1, (v_1.2.2.1, ()))), ())).bind fun v_6 =>
                (bif (!(v_5 == v_6)) then
                  (some false)
                else
                  (ammonitelaw13_ControlTells.j10 K v_2 v_3 bc9_0 bc9_1 bc9_2 v_1.1 v_1.2.1 v_1.2.2.1)))))
          else
            ((control_Same.f K ((bc9_0, (bc9_1, (bc9_2, ()))), (v_1.1, (v_1.2.1, (v_1.2.2.1, ()))), ())).bind fun v_7 =>
             ((ammonitekeep_Controls.f K ((bc9_0, (bc9_1, (bc9_2, ()))), (v_1.1, (v_1.2.1, (v_1.2.2.1, ()))), ())).bind fun v_8 =>
              (bif (!(v_7 == v_8)) then
                (some false)
              else
                (ammonitelaw13_ControlTells.j10 K v_2 v_3 bc9_0 bc9_1 bc9_2 v_1.1 v_1.2.1 v_1.2.2.1))))))))))) : Option Bool) := by
  obtain ⟨K, rfl⟩ : ∃ m, K = m + 1 := ⟨K - 1, by omega⟩
  kernel_rfl
theorem ammonitelaw13_ControlTells.j10_eq {K : Nat} (hK : 1000 ≤ K)  (right11 : Bool) (s12 : (List UInt8)) (bc9_0 : Int) (bc9_1 : (List D25)) (bc9_2 : (List UInt8)) (bd10_0 : Int) (bd10_1 : (List D25)) (bd10_2 : (List UInt8)) : ammonitelaw13_ControlTells.j10 K right11 s12 bc9_0 bc9_1 bc9_2 bd10_0 bd10_1 bd10_2 =
  ((bif (!right11) then
    ((ammonitelaw13_ControlRuns.f K (())).bind fun v_1 =>
     (some v_1))
  else
    ((control_Read.f K (s12, ())).bind fun v_2 =>
     ((ammoniteref10_Control.f K ((bc9_0, (bc9_1, (bc9_2, ()))), ())).bind fun v_3 =>
      (bif (decide (s12 = v_3)) then
        (bif v_2.2.1 then
          ((ammonitekeep_Controls.f K ((v_2.1.1, (v_2.1.2.1, (v_2.1.2.2.1, ()))), (bc9_0, (bc9_1, (bc9_2, ()))), ())).bind fun v_4 =>
           (bif v_4 then
             ((control_Print.f K ((bd10_0, (bd10_1, (bd10_2, ()))), ())).bind fun v_5 =>
              ((ammonitekeep_Controls.f K ((bc9_0, (bc9_1, (bc9_2, ()))), (bd10_0, (bd10_1, (bd10_2, ()))), ())).bind fun v_6 =>
               (bif ((decide (s12 = v_5)) == v_6) then
                 ((ammonitelaw13_ControlRuns.f K (())).bind fun v_7 =>
                  (some v_7))
               else
                 (some false))))
           else
             (some false)))
        else
          (some false))
      else
        (some false))))) : Option Bool) := by
  obtain ⟨K, rfl⟩ : ∃ m, K = m + 2 := ⟨K - 2, by omega⟩
  kernel_rfl
theorem ammonitelaw13_ControlTells.tbOk (K : Nat) : TbOk Try.prog (ammonitelaw13_ControlTells.tb K) := by
  intro e he
  simp only [ammonitelaw13_ControlTells.tb, List.mem_cons, List.not_mem_nil, or_false] at he
  rcases he with rfl | rfl | rfl | rfl | rfl | rfl | rfl | rfl | rfl
  · exact ⟨ammonitekeep_Control_Control.ok K, enters_of Try.func11 (by kernel_rfl) rfl⟩
  · exact ⟨ammoniteref10_RightControl.ok K, enters_of Try.func18 (by kernel_rfl) rfl⟩
  · exact ⟨control_Print.ok K, enters_of Try.func8 (by kernel_rfl) rfl⟩
  · exact ⟨control_Right.ok K, enters_of Try.func17 (by kernel_rfl) rfl⟩
  · exact ⟨control_Same.ok K, enters_of Try.func19 (by kernel_rfl) rfl⟩
  · exact ⟨ammonitekeep_Controls.ok K, enters_of Try.func16 (by kernel_rfl) rfl⟩
  · exact ⟨ammonitelaw13_ControlRuns.ok K, enters_of Try.func3 (by kernel_rfl) rfl⟩
  · exact ⟨control_Read.ok K, enters_of Try.func9 (by kernel_rfl) rfl⟩
  · exact ⟨ammoniteref10_Control.ok K, enters_of Try.func10 (by kernel_rfl) rfl⟩
theorem ammonitelaw13_ControlTells.itsOk : ItbOk Try.prog ammonitelaw13_ControlTells.its := by
  intro e he
  simp only [ammonitelaw13_ControlTells.its, List.mem_cons, List.not_mem_nil, or_false] at he
theorem ammonitelaw13_ControlTells.ok (K : Nat) : PureC Try.prog 5 ⟨[T28, T34, T34, .bool], [.bool], ammonitelaw13_ControlTells.f K⟩ :=
  fn_sound (itOk _ _) (E := ammonitelaw13_ControlTells.E K) (full_ok tys_ok ammonitelaw13_ControlTells.itsOk (ammonitelaw13_ControlTells.tbOk K) par_ok bld_ok bty_ok) mixed Try.func5 (c := ammonitelaw13_ControlTells.code) (by kernel_rfl) (by kernel_rfl) (by decide) (by kernel_rfl)
/-! ### ammonite/ammonitelaw13.ControlEdges: function 6 -/
noncomputable def ammonitelaw13_ControlEdges.tb (K : Nat) : Tb := [(11, ⟨[T34], [T28], ammonitekeep_Control_Control.f K⟩), (17, ⟨[T28], [.bool], control_Right.f K⟩), (7, ⟨[.str], [.str], ammoniteref1_Sum.f K⟩), (8, ⟨[T28], [.str], control_Print.f K⟩), (9, ⟨[.str], [T28, .bool], control_Read.f K⟩), (20, ⟨[(.int .i64), (.int .i64), (.int .i64)], [(.int .i64)], ammonitebook_Within.f K⟩), (19, ⟨[T28, T28], [.bool], control_Same.f K⟩), (3, ⟨[], [.bool], ammonitelaw13_ControlRuns.f K⟩)]
noncomputable def ammonitelaw13_ControlEdges.its : Itb := []
noncomputable def ammonitelaw13_ControlEdges.code : Code := (Try.f6.body).getD .skip
noncomputable def ammonitelaw13_ControlEdges.nm : Nat → NormSpec := lookN []
noncomputable def ammonitelaw13_ControlEdges.pre : Nat → Option NormSpec := lookP [(20, ⟨[(9, .raw), (11, .raw), (12, .raw), (13, (.data .bool))], [(9, [(.data (.int .i64)), (.data (.slice T25)), (.data .str)]), (11, [(.data (.int .i64)), (.vec T25), (.data .str)]), (12, [(.data (.int .i64)), (.data (.slice T25)), (.data .str)])], []⟩)]
noncomputable def ammonitelaw13_ControlEdges.E (K : Nat) : Env := ⟨lookR tys, bty, fullCall ammonitelaw13_ControlEdges.its (ammonitelaw13_ControlEdges.tb K) bids⟩
noncomputable def ammonitelaw13_ControlEdges.ret (K : Nat) : St → Option (resT [.bool]).den := retA (ammonitelaw13_ControlEdges.E K) [.bool] [(.tmp 8)]
noncomputable def ammonitelaw13_ControlEdges.C (K : Nat) : CEnv (resT [.bool]).den := ⟨ammonitelaw13_ControlEdges.E K, 87, K, ammonitelaw13_ControlEdges.nm, ammonitelaw13_ControlEdges.ret K, [], fun _ => false, ammonitelaw13_ControlEdges.pre, lookG [(20, 0)]⟩
noncomputable def ammonitelaw13_ControlEdges.f (K : Nat) (x : (prodT [T34, (.int .i64), (.int .i64), .str]).den) : Option (resT [.bool]).den := exec ammonitelaw13_ControlEdges.code (ammonitelaw13_ControlEdges.C K) (ammonitelaw13_ControlEdges.ret K) (init [T34, (.int .i64), (.int .i64), .str] x)
noncomputable def ammonitelaw13_ControlEdges.mj20 (ok13 : Bool) (bc9_0 : Int) (bc9_1 : (List D25)) (bc9_2 : (List UInt8)) (bd11_0 : Int) (bd11_1 : (List D25)) (bd11_2 : (List UInt8)) (by12_0 : Int) (by12_1 : (List D25)) (by12_2 : (List UInt8)) : St := mkSt [(9, (.ptr 9 0)), (11, (.ptr 11 0)), (12, (.ptr 12 0)), (13, (.d .bool (ok13 : Bool)))] [(9, (.box [(.d (.int .i64) (bc9_0 : Int)), (.d (.slice T25) (bc9_1 : (List D25))), (.d .str (bc9_2 : (List UInt8)))])), (11, (.box [(.d (.int .i64) (bd11_0 : Int)), (.vs 11101 0 T25 (bd11_1 : List D25)), (.d .str (bd11_2 : (List UInt8)))])), (11101, (.vec T25 0)), (12, (.box [(.d (.int .i64) (by12_0 : Int)), (.d (.slice T25) (by12_1 : (List D25))), (.d .str (by12_2 : (List UInt8)))]))]
noncomputable def ammonitelaw13_ControlEdges.j20 (K : Nat)  (ok13 : Bool) (bc9_0 : Int) (bc9_1 : (List D25)) (bc9_2 : (List UInt8)) (bd11_0 : Int) (bd11_1 : (List D25)) (bd11_2 : (List UInt8)) (by12_0 : Int) (by12_1 : (List D25)) (by12_2 : (List UInt8)) : Option Bool := pointAt [.r, .r, .r, .r, .r, .r, .r, .r, .l] ammonitelaw13_ControlEdges.code (ammonitelaw13_ControlEdges.C K) (ammonitelaw13_ControlEdges.ret K) [] (ammonitelaw13_ControlEdges.mj20 ok13 bc9_0 bc9_1 bc9_2 bd11_0 bd11_1 bd11_2 by12_0 by12_1 by12_2)
theorem ammonitelaw13_ControlEdges.eq (K : Nat) (k0 : D34) (what1 : Int) (n2 : Int) (v3 : (List UInt8)) : ammonitelaw13_ControlEdges.f K (k0, what1, n2, v3, ()) =
  (((ammonitekeep_Control_Control.f K ((k0.1, (k0.2.1, (k0.2.2.1, (k0.2.2.2.1, ())))), ())).bind fun v_1 =>
   ((control_Right.f K ((v_1.1, (v_1.2.1, (v_1.2.2.1, ()))), ())).bind fun v_2 =>
    (bif (!v_2) then
      (some false)
    else
      ((ammoniteref1_Sum.f K (([120] : List UInt8), ())).bind fun v_3 =>
       (chks [(decide ((0 : Int) ≤ (if (12 : Int) < (List.length v3 : Int) then (12 : Int) else (List.length v3 : Int)))), (decide ((if (12 : Int) < (List.length v3 : Int) then (12 : Int) else (List.length v3 : Int)) ≤ (List.length v3 : Int)))]
        ((control_Print.f K ((0, (([((42 : Int), (([116] : List UInt8), (v_3, ((cutL v3 none (some (if (12 : Int) < (List.length v3 : Int) then (12 : Int) else (List.length v3 : Int)))), ()))))] : List D25), (([109, 101] : List UInt8), ()))), ())).bind fun v_4 =>
         ((control_Read.f K (v_4, ())).bind fun v_5 =>
          ((ammonitebook_Within.f K (n2, (1 : Int), (99 : Int), ())).bind fun v_6 =>
           ((ammonitebook_Within.f K (what1, (0 : Int), (5 : Int), ())).bind fun v_7 =>
            (bif (decide (v_7 = (0 : Int))) then
              (ammonitelaw13_ControlEdges.j20 K v_5.2.1 v_1.1 ([] : (List D25)) v_1.2.2.1 0 ([((42 : Int), (([116] : List UInt8), (v_3, ((cutL v3 none (some (if (12 : Int) < (List.length v3 : Int) then (12 : Int) else (List.length v3 : Int)))), ()))))] : List D25) ([109, 101] : List UInt8) v_5.1.1 v_5.1.2.1 v_5.1.2.2.1)
            else
              (bif (decide (v_7 = (1 : Int))) then
                (ammonitelaw13_ControlEdges.j20 K v_5.2.1 v_1.1 ([((43 : Int), (([116] : List UInt8), (([42] : List UInt8), ([], ()))))] : List D25) v_1.2.2.1 0 ([((42 : Int), (([116] : List UInt8), (v_3, ((cutL v3 none (some (if (12 : Int) < (List.length v3 : Int) then (12 : Int) else (List.length v3 : Int)))), ()))))] : List D25) ([109, 101] : List UInt8) v_5.1.1 v_5.1.2.1 v_5.1.2.2.1)
              else
                (bif (decide (v_7 = (2 : Int))) then
                  (ammonitelaw13_ControlEdges.j20 K v_5.2.1 (IntKind.wrap .i64 (0 - v_6)) v_1.2.1 v_1.2.2.1 0 ([((42 : Int), (([116] : List UInt8), (v_3, ((cutL v3 none (some (if (12 : Int) < (List.length v3 : Int) then (12 : Int) else (List.length v3 : Int)))), ()))))] : List D25) ([109, 101] : List UInt8) v_5.1.1 v_5.1.2.1 v_5.1.2.2.1)
                else
                  (bif (decide (v_7 = (3 : Int))) then
                    (ammonitelaw13_ControlEdges.j20 K v_5.2.1 v_1.1 v_1.2.1 ([97, 32, 98] : List UInt8) 0 ([((42 : Int), (([116] : List UInt8), (v_3, ((cutL v3 none (some (if (12 : Int) < (List.length v3 : Int) then (12 : Int) else (List.length v3 : Int)))), ()))))] : List D25) ([109, 101] : List UInt8) v_5.1.1 v_5.1.2.1 v_5.1.2.2.1)
                  else
                    (bif (decide (v_7 = (4 : Int))) then
                      (ammonitelaw13_ControlEdges.j20 K v_5.2.1 v_1.1 ([((45 : Int), (([116] : List UInt8), (v_3, (([118] : List UInt8), ()))))] : List D25) v_1.2.2.1 0 ([((42 : Int), (([116] : List UInt8), (v_3, ((cutL v3 none (some (if (12 : Int) < (List.length v3 : Int) then (12 : Int) else (List.length v3 : Int)))), ()))))] : List D25) ([109, 101] : List UInt8) v_5.1.1 v_5.1.2.1 v_5.1.2.2.1)
                    else
                      (ammonitelaw13_ControlEdges.j20 K v_5.2.1 v_1.1 ([((43 : Int), (([117] : List UInt8), (v_3, ([], ())))), ((43 : Int), (([116] : List UInt8), (v_3, ([], ()))))] : List D25) v_1.2.2.1 0 ([((42 : Int), (([116] : List UInt8), (v_3, ((cutL v3 none (some (if (12 : Int) < (List.length v3 : Int) then (12 : Int) else (List.length v3 : Int)))), ()))))] : List D25) ([109, 101] : List UInt8) v_5.1.1 v_5.1.2.1 v_5.1.2.2.1))))))))))))))) : Option Bool) := by kernel_rfl
theorem ammonitelaw13_ControlEdges.j20_eq {K : Nat} (hK : 1000 ≤ K)  (ok13 : Bool) (bc9_0 : Int) (bc9_1 : (List D25)) (bc9_2 : (List UInt8)) (bd11_0 : Int) (bd11_1 : (List D25)) (bd11_2 : (List UInt8)) (by12_0 : Int) (by12_1 : (List D25)) (by12_2 : (List UInt8)) : ammonitelaw13_ControlEdges.j20 K ok13 bc9_0 bc9_1 bc9_2 bd11_0 bd11_1 bd11_2 by12_0 by12_1 by12_2 =
  ((bif ok13 then
    ((control_Same.f K ((by12_0, (by12_1, (by12_2, ()))), (bd11_0, (bd11_1, (bd11_2, ()))), ())).bind fun v_1 =>
     (bif v_1 then
       ((control_Right.f K ((bc9_0, (bc9_1, (bc9_2, ()))), ())).bind fun v_2 =>
        (bif (!v_2) then
          ((control_Print.f K ((bc9_0, (bc9_1, (bc9_2, ()))), ())).bind fun v_3 =>
           (bif (decide (v_3 = ([] : List UInt8))) then
             ((ammonitelaw13_ControlRuns.f K (())).bind fun v_4 =>
              (some v_4))
           else
             (some false)))
        else
          (some false)))
     else
       (some false)))
  else
    (some false)) : Option Bool) := by
  obtain ⟨K, rfl⟩ : ∃ m, K = m + 1 := ⟨K - 1, by omega⟩
  kernel_rfl
theorem ammonitelaw13_ControlEdges.tbOk (K : Nat) : TbOk Try.prog (ammonitelaw13_ControlEdges.tb K) := by
  intro e he
  simp only [ammonitelaw13_ControlEdges.tb, List.mem_cons, List.not_mem_nil, or_false] at he
  rcases he with rfl | rfl | rfl | rfl | rfl | rfl | rfl | rfl
  · exact ⟨ammonitekeep_Control_Control.ok K, enters_of Try.func11 (by kernel_rfl) rfl⟩
  · exact ⟨control_Right.ok K, enters_of Try.func17 (by kernel_rfl) rfl⟩
  · exact ⟨ammoniteref1_Sum.ok K, enters_of Try.func7 (by kernel_rfl) rfl⟩
  · exact ⟨control_Print.ok K, enters_of Try.func8 (by kernel_rfl) rfl⟩
  · exact ⟨control_Read.ok K, enters_of Try.func9 (by kernel_rfl) rfl⟩
  · exact ⟨ammonitebook_Within.ok K, enters_of Try.func20 (by kernel_rfl) rfl⟩
  · exact ⟨control_Same.ok K, enters_of Try.func19 (by kernel_rfl) rfl⟩
  · exact ⟨ammonitelaw13_ControlRuns.ok K, enters_of Try.func3 (by kernel_rfl) rfl⟩
theorem ammonitelaw13_ControlEdges.itsOk : ItbOk Try.prog ammonitelaw13_ControlEdges.its := by
  intro e he
  simp only [ammonitelaw13_ControlEdges.its, List.mem_cons, List.not_mem_nil, or_false] at he
theorem ammonitelaw13_ControlEdges.ok (K : Nat) : PureC Try.prog 6 ⟨[T34, (.int .i64), (.int .i64), .str], [.bool], ammonitelaw13_ControlEdges.f K⟩ :=
  fn_sound (itOk _ _) (E := ammonitelaw13_ControlEdges.E K) (full_ok tys_ok ammonitelaw13_ControlEdges.itsOk (ammonitelaw13_ControlEdges.tbOk K) par_ok bld_ok bty_ok) mixed Try.func6 (c := ammonitelaw13_ControlEdges.code) (by kernel_rfl) (by kernel_rfl) (by decide) (by kernel_rfl)
end Go.Proofs.Ytjpbbjcfdeappaa.Ab
