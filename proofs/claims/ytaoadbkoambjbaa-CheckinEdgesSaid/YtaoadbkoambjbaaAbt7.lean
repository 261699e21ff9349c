import Derived.Test.YtaoadbkoambjbaaAbt5
import Derived.Test.YtaoadbkoambjbaaProg
set_option linter.unusedVariables false
set_option linter.unusedSimpArgs false
set_option maxRecDepth 100000
namespace Go.Proofs.Ytaoadbkoambjbaa.Ab
open Go Go.RowKit Go.Proofs
noncomputable def ammonitebook_Same_File.tb (K : Nat) : Tb := []
noncomputable def ammonitebook_Same_File.its : Itb := []
noncomputable def ammonitebook_Same_File.code : Code := (Try.f50.body).getD .skip
noncomputable def ammonitebook_Same_File.nm : Nat → NormSpec := lookN [(4, ⟨[(0, (.data (.slice T56))), (1, (.data (.slice T56))), (5, (.data (.int .i64)))], [], []⟩)]
noncomputable def ammonitebook_Same_File.pre : Nat → Option NormSpec := lookP []
noncomputable def ammonitebook_Same_File.E (K : Nat) : Env := ⟨lookR tys, bty, fullCall ammonitebook_Same_File.its (ammonitebook_Same_File.tb K) bids⟩
noncomputable def ammonitebook_Same_File.ret (K : Nat) : St → Option (resT [.bool]).den := retA (ammonitebook_Same_File.E K) [.bool] [(.tmp 4)]
noncomputable def ammonitebook_Same_File.C (K : Nat) : CEnv (resT [.bool]).den := ⟨ammonitebook_Same_File.E K, 26, K, ammonitebook_Same_File.nm, ammonitebook_Same_File.ret K, [], fun _ => false, ammonitebook_Same_File.pre, lookG []⟩
noncomputable def ammonitebook_Same_File.f (K : Nat) (x : (prodT [(.slice T56), (.slice T56)]).den) : Option (resT [.bool]).den := exec ammonitebook_Same_File.code (ammonitebook_Same_File.C K) (ammonitebook_Same_File.ret K) (init [(.slice T56), (.slice T56)] x)
noncomputable def ammonitebook_Same_File.m4 (a0 : (List D56)) (b1 : (List D56)) (i5 : Int) : St := mkSt [(0, (.d (.slice T56) (a0 : (List D56)))), (1, (.d (.slice T56) (b1 : (List D56)))), (5, (.d (.int .i64) (i5 : Int)))] []
noncomputable def ammonitebook_Same_File.r4 (K : Nat)  (n : Nat) : St → Option Bool := loopAt [.r, .r, .l, .r, .b] ammonitebook_Same_File.code (ammonitebook_Same_File.C K) (ammonitebook_Same_File.ret K) [] n
noncomputable def ammonitebook_Same_File.l4 (K : Nat)  (n : Nat) (a0 : (List D56)) (b1 : (List D56)) (i5 : Int) : Option Bool := ammonitebook_Same_File.r4 K n (ammonitebook_Same_File.m4 a0 b1 i5)
theorem ammonitebook_Same_File.eq (K : Nat) (a0 : (List D56)) (b1 : (List D56)) : ammonitebook_Same_File.f K (a0, b1, ()) =
 ((bif (!(decide ((List.length a0 : Int) = (List.length b1 : Int)))) then
 (some false)
 else
 (ammonitebook_Same_File.l4 K K a0 b1 (0 : Int))) : Option Bool) := by kernel_rfl
theorem ammonitebook_Same_File.l4_succ (K : Nat)  (n : Nat) (a0 : (List D56)) (b1 : (List D56)) (i5 : Int) : ammonitebook_Same_File.l4 K (n + 1) a0 b1 i5 =
 ((bif (decide (i5 < (List.length a0 : Int))) then
 (chks [(decide ((0 : Int) ≤ i5)), (decide (i5 < (List.length a0 : Int)))]
 (chks [(decide ((0 : Int) ≤ i5)), (decide (i5 < (List.length b1 : Int)))]
 (bif (!(eqD T56 (List.getD a0 (Int.toNat i5) (DTy.dflt T56)) (List.getD b1 (Int.toNat i5) (DTy.dflt T56)))) then
 (some false)
 else
 (ammonitebook_Same_File.l4 K n a0 b1 (IntKind.wrap .i64 (i5 + (1 : Int)))))))
 else
 (some true)) : Option Bool) := by kernel_rfl
theorem ammonitebook_Same_File.tbOk (K : Nat) : TbOk Try.prog (ammonitebook_Same_File.tb K) := by
 intro e he
 simp only [ammonitebook_Same_File.tb, List.mem_cons, List.not_mem_nil, or_false] at he
theorem ammonitebook_Same_File.itsOk : ItbOk Try.prog ammonitebook_Same_File.its := by
 intro e he
 simp only [ammonitebook_Same_File.its, List.mem_cons, List.not_mem_nil, or_false] at he
theorem ammonitebook_Same_File.ok (K : Nat) : PureC Try.prog 50 ⟨[(.slice T56), (.slice T56)], [.bool], ammonitebook_Same_File.f K⟩ :=
 fn_sound (itOk _ _) (E := ammonitebook_Same_File.E K) (full_ok tys_ok ammonitebook_Same_File.itsOk (ammonitebook_Same_File.tbOk K) par_ok bld_ok bty_ok) mixed Try.func50 (c := ammonitebook_Same_File.code) (by kernel_rfl) (by kernel_rfl) (by decide) (by kernel_rfl)
noncomputable def ammonitebook_Same_string.tb (K : Nat) : Tb := []
noncomputable def ammonitebook_Same_string.its : Itb := []
noncomputable def ammonitebook_Same_string.code : Code := (Try.f51.body).getD .skip
noncomputable def ammonitebook_Same_string.nm : Nat → NormSpec := lookN [(4, ⟨[(0, (.data (.slice .str))), (1, (.data (.slice .str))), (5, (.data (.int .i64)))], [], []⟩)]
noncomputable def ammonitebook_Same_string.pre : Nat → Option NormSpec := lookP []
noncomputable def ammonitebook_Same_string.E (K : Nat) : Env := ⟨lookR tys, bty, fullCall ammonitebook_Same_string.its (ammonitebook_Same_string.tb K) bids⟩
noncomputable def ammonitebook_Same_string.ret (K : Nat) : St → Option (resT [.bool]).den := retA (ammonitebook_Same_string.E K) [.bool] [(.tmp 4)]
noncomputable def ammonitebook_Same_string.C (K : Nat) : CEnv (resT [.bool]).den := ⟨ammonitebook_Same_string.E K, 26, K, ammonitebook_Same_string.nm, ammonitebook_Same_string.ret K, [], fun _ => false, ammonitebook_Same_string.pre, lookG []⟩
noncomputable def ammonitebook_Same_string.f (K : Nat) (x : (prodT [(.slice .str), (.slice .str)]).den) : Option (resT [.bool]).den := exec ammonitebook_Same_string.code (ammonitebook_Same_string.C K) (ammonitebook_Same_string.ret K) (init [(.slice .str), (.slice .str)] x)
noncomputable def ammonitebook_Same_string.m4 (a0 : (List (List UInt8))) (b1 : (List (List UInt8))) (i5 : Int) : St := mkSt [(0, (.d (.slice .str) (a0 : (List (List UInt8))))), (1, (.d (.slice .str) (b1 : (List (List UInt8))))), (5, (.d (.int .i64) (i5 : Int)))] []
noncomputable def ammonitebook_Same_string.r4 (K : Nat)  (n : Nat) : St → Option Bool := loopAt [.r, .r, .l, .r, .b] ammonitebook_Same_string.code (ammonitebook_Same_string.C K) (ammonitebook_Same_string.ret K) [] n
noncomputable def ammonitebook_Same_string.l4 (K : Nat)  (n : Nat) (a0 : (List (List UInt8))) (b1 : (List (List UInt8))) (i5 : Int) : Option Bool := ammonitebook_Same_string.r4 K n (ammonitebook_Same_string.m4 a0 b1 i5)
theorem ammonitebook_Same_string.eq (K : Nat) (a0 : (List (List UInt8))) (b1 : (List (List UInt8))) : ammonitebook_Same_string.f K (a0, b1, ()) =
 ((bif (!(decide ((List.length a0 : Int) = (List.length b1 : Int)))) then
 (some false)
 else
 (ammonitebook_Same_string.l4 K K a0 b1 (0 : Int))) : Option Bool) := by kernel_rfl
theorem ammonitebook_Same_string.l4_succ (K : Nat)  (n : Nat) (a0 : (List (List UInt8))) (b1 : (List (List UInt8))) (i5 : Int) : ammonitebook_Same_string.l4 K (n + 1) a0 b1 i5 =
 ((bif (decide (i5 < (List.length a0 : Int))) then
 (chks [(decide ((0 : Int) ≤ i5)), (decide (i5 < (List.length a0 : Int)))]
 (chks [(decide ((0 : Int) ≤ i5)), (decide (i5 < (List.length b1 : Int)))]
 (bif (!(decide ((List.getD a0 (Int.toNat i5) (DTy.dflt .str)) = (List.getD b1 (Int.toNat i5) (DTy.dflt .str))))) then
 (some false)
 else
 (ammonitebook_Same_string.l4 K n a0 b1 (IntKind.wrap .i64 (i5 + (1 : Int)))))))
 else
 (some true)) : Option Bool) := by kernel_rfl
theorem ammonitebook_Same_string.tbOk (K : Nat) : TbOk Try.prog (ammonitebook_Same_string.tb K) := by
 intro e he
 simp only [ammonitebook_Same_string.tb, List.mem_cons, List.not_mem_nil, or_false] at he
theorem ammonitebook_Same_string.itsOk : ItbOk Try.prog ammonitebook_Same_string.its := by
 intro e he
 simp only [ammonitebook_Same_string.its, List.mem_cons, List.not_mem_nil, or_false] at he
theorem ammonitebook_Same_string.ok (K : Nat) : PureC Try.prog 51 ⟨[(.slice .str), (.slice .str)], [.bool], ammonitebook_Same_string.f K⟩ :=
 fn_sound (itOk _ _) (E := ammonitebook_Same_string.E K) (full_ok tys_ok ammonitebook_Same_string.itsOk (ammonitebook_Same_string.tbOk K) par_ok bld_ok bty_ok) mixed Try.func51 (c := ammonitebook_Same_string.code) (by kernel_rfl) (by kernel_rfl) (by decide) (by kernel_rfl)
noncomputable def slices_Equal_File.tb (K : Nat) : Tb := []
noncomputable def slices_Equal_File.its : Itb := []
noncomputable def slices_Equal_File.code : Code := (Try.f61.body).getD .skip
noncomputable def slices_Equal_File.nm : Nat → NormSpec := lookN [(4, ⟨[(0, (.data (.slice T56))), (1, (.data (.slice T56))), (12, (.data (.int .i64))), (13, (.data (.int .i64)))], [], []⟩)]
noncomputable def slices_Equal_File.pre : Nat → Option NormSpec := lookP []
noncomputable def slices_Equal_File.E (K : Nat) : Env := ⟨lookR tys, bty, fullCall slices_Equal_File.its (slices_Equal_File.tb K) bids⟩
noncomputable def slices_Equal_File.ret (K : Nat) : St → Option (resT [.bool]).den := retA (slices_Equal_File.E K) [.bool] [(.tmp 4)]
noncomputable def slices_Equal_File.C (K : Nat) : CEnv (resT [.bool]).den := ⟨slices_Equal_File.E K, 26, K, slices_Equal_File.nm, slices_Equal_File.ret K, [], fun _ => false, slices_Equal_File.pre, lookG []⟩
noncomputable def slices_Equal_File.f (K : Nat) (x : (prodT [(.slice T56), (.slice T56)]).den) : Option (resT [.bool]).den := exec slices_Equal_File.code (slices_Equal_File.C K) (slices_Equal_File.ret K) (init [(.slice T56), (.slice T56)] x)
noncomputable def slices_Equal_File.m4 (s10 : (List D56)) (s21 : (List D56)) (t12 : Int) (t13 : Int) : St := mkSt [(0, (.d (.slice T56) (s10 : (List D56)))), (1, (.d (.slice T56) (s21 : (List D56)))), (12, (.d (.int .i64) (t12 : Int))), (13, (.d (.int .i64) (t13 : Int)))] []
noncomputable def slices_Equal_File.r4 (K : Nat)  (n : Nat) : St → Option Bool := loopAt [.r, .r, .l, .r, .b] slices_Equal_File.code (slices_Equal_File.C K) (slices_Equal_File.ret K) [] n
noncomputable def slices_Equal_File.l4 (K : Nat)  (n : Nat) (s10 : (List D56)) (s21 : (List D56)) (t12 : Int) (t13 : Int) : Option Bool := slices_Equal_File.r4 K n (slices_Equal_File.m4 s10 s21 t12 t13)
theorem slices_Equal_File.eq (K : Nat) (s10 : (List D56)) (s21 : (List D56)) : slices_Equal_File.f K (s10, s21, ()) =
 ((bif (!(decide ((List.length s10 : Int) = (List.length s21 : Int)))) then
 (some false)
 else
 (slices_Equal_File.l4 K K s10 s21 (List.length s10 : Int) (0 : Int))) : Option Bool) := by kernel_rfl
theorem slices_Equal_File.l4_succ (K : Nat)  (n : Nat) (s10 : (List D56)) (s21 : (List D56)) (t12 : Int) (t13 : Int) : slices_Equal_File.l4 K (n + 1) s10 s21 t12 t13 =
 ((bif (decide (t13 < t12)) then
 (chks [(decide ((0 : Int) ≤ t13)), (decide (t13 < (List.length s10 : Int)))]
 (chks [(decide ((0 : Int) ≤ t13)), (decide (t13 < (List.length s21 : Int)))]
 (bif (!(eqD T56 (List.getD s10 (Int.toNat t13) (DTy.dflt T56)) (List.getD s21 (Int.toNat t13) (DTy.dflt T56)))) then
 (some false)
 else
 (slices_Equal_File.l4 K n s10 s21 t12 (IntKind.wrap .i64 (t13 + (1 : Int)))))))
 else
 (some true)) : Option Bool) := by kernel_rfl
theorem slices_Equal_File.tbOk (K : Nat) : TbOk Try.prog (slices_Equal_File.tb K) := by
 intro e he
 simp only [slices_Equal_File.tb, List.mem_cons, List.not_mem_nil, or_false] at he
theorem slices_Equal_File.itsOk : ItbOk Try.prog slices_Equal_File.its := by
 intro e he
 simp only [slices_Equal_File.its, List.mem_cons, List.not_mem_nil, or_false] at he
theorem slices_Equal_File.ok (K : Nat) : PureC Try.prog 61 ⟨[(.slice T56), (.slice T56)], [.bool], slices_Equal_File.f K⟩ :=
 fn_sound (itOk _ _) (E := slices_Equal_File.E K) (full_ok tys_ok slices_Equal_File.itsOk (slices_Equal_File.tbOk K) par_ok bld_ok bty_ok) mixed Try.func61 (c := slices_Equal_File.code) (by kernel_rfl) (by kernel_rfl) (by decide) (by kernel_rfl)
noncomputable def slices_Equal_string_string.tb (K : Nat) : Tb := []
noncomputable def slices_Equal_string_string.its : Itb := []
noncomputable def slices_Equal_string_string.code : Code := (Try.f62.body).getD .skip
noncomputable def slices_Equal_string_string.nm : Nat → NormSpec := lookN [(4, ⟨[(0, (.data (.slice .str))), (1, (.data (.slice .str))), (12, (.data (.int .i64))), (13, (.data (.int .i64)))], [], []⟩)]
noncomputable def slices_Equal_string_string.pre : Nat → Option NormSpec := lookP []
noncomputable def slices_Equal_string_string.E (K : Nat) : Env := ⟨lookR tys, bty, fullCall slices_Equal_string_string.its (slices_Equal_string_string.tb K) bids⟩
noncomputable def slices_Equal_string_string.ret (K : Nat) : St → Option (resT [.bool]).den := retA (slices_Equal_string_string.E K) [.bool] [(.tmp 4)]
noncomputable def slices_Equal_string_string.C (K : Nat) : CEnv (resT [.bool]).den := ⟨slices_Equal_string_string.E K, 26, K, slices_Equal_string_string.nm, slices_Equal_string_string.ret K, [], fun _ => false, slices_Equal_string_string.pre, lookG []⟩
noncomputable def slices_Equal_string_string.f (K : Nat) (x : (prodT [(.slice .str), (.slice .str)]).den) : Option (resT [.bool]).den := exec slices_Equal_string_string.code (slices_Equal_string_string.C K) (slices_Equal_string_string.ret K) (init [(.slice .str), (.slice .str)] x)
noncomputable def slices_Equal_string_string.m4 (s10 : (List (List UInt8))) (s21 : (List (List UInt8))) (t12 : Int) (t13 : Int) : St := mkSt [(0, (.d (.slice .str) (s10 : (List (List UInt8))))), (1, (.d (.slice .str) (s21 : (List (List UInt8))))), (12, (.d (.int .i64) (t12 : Int))), (13, (.d (.int .i64) (t13 : Int)))] []
noncomputable def slices_Equal_string_string.r4 (K : Nat)  (n : Nat) : St → Option Bool := loopAt [.r, .r, .l, .r, .b] slices_Equal_string_string.code (slices_Equal_string_string.C K) (slices_Equal_string_string.ret K) [] n
noncomputable def slices_Equal_string_string.l4 (K : Nat)  (n : Nat) (s10 : (List (List UInt8))) (s21 : (List (List UInt8))) (t12 : Int) (t13 : Int) : Option Bool := slices_Equal_string_string.r4 K n (slices_Equal_string_string.m4 s10 s21 t12 t13)
theorem slices_Equal_string_string.eq (K : Nat) (s10 : (List (List UInt8))) (s21 : (List (List UInt8))) : slices_Equal_string_string.f K (s10, s21, ()) =
 ((bif (!(decide ((List.length s10 : Int) = (List.length s21 : Int)))) then
 (some false)
 else
 (slices_Equal_string_string.l4 K K s10 s21 (List.length s10 : Int) (0 : Int))) : Option Bool) := by kernel_rfl
theorem slices_Equal_string_string.l4_succ (K : Nat)  (n : Nat) (s10 : (List (List UInt8))) (s21 : (List (List UInt8))) (t12 : Int) (t13 : Int) : slices_Equal_string_string.l4 K (n + 1) s10 s21 t12 t13 =
 ((bif (decide (t13 < t12)) then
 (chks [(decide ((0 : Int) ≤ t13)), (decide (t13 < (List.length s10 : Int)))]
 (chks [(decide ((0 : Int) ≤ t13)), (decide (t13 < (List.length s21 : Int)))]
 (bif (!(decide ((List.getD s10 (Int.toNat t13) (DTy.dflt .str)) = (List.getD s21 (Int.toNat t13) (DTy.dflt .str))))) then
 (some false)
 else
 (slices_Equal_string_string.l4 K n s10 s21 t12 (IntKind.wrap .i64 (t13 + (1 : Int)))))))
 else
 (some true)) : Option Bool) := by kernel_rfl
theorem slices_Equal_string_string.tbOk (K : Nat) : TbOk Try.prog (slices_Equal_string_string.tb K) := by
 intro e he
 simp only [slices_Equal_string_string.tb, List.mem_cons, List.not_mem_nil, or_false] at he
theorem slices_Equal_string_string.itsOk : ItbOk Try.prog slices_Equal_string_string.its := by
 intro e he
 simp only [slices_Equal_string_string.its, List.mem_cons, List.not_mem_nil, or_false] at he
theorem slices_Equal_string_string.ok (K : Nat) : PureC Try.prog 62 ⟨[(.slice .str), (.slice .str)], [.bool], slices_Equal_string_string.f K⟩ :=
 fn_sound (itOk _ _) (E := slices_Equal_string_string.E K) (full_ok tys_ok slices_Equal_string_string.itsOk (slices_Equal_string_string.tbOk K) par_ok bld_ok bty_ok) mixed Try.func62 (c := slices_Equal_string_string.code) (by kernel_rfl) (by kernel_rfl) (by decide) (by kernel_rfl)
noncomputable def slices_Index_string_string.tb (K : Nat) : Tb := []
noncomputable def slices_Index_string_string.its : Itb := []
noncomputable def slices_Index_string_string.code : Code := (Try.f96.body).getD .skip
noncomputable def slices_Index_string_string.nm : Nat → NormSpec := lookN [(2, ⟨[(0, (.data (.slice .str))), (1, (.data .str)), (7, (.data (.int .i64))), (8, (.data (.int .i64)))], [], []⟩)]
noncomputable def slices_Index_string_string.pre : Nat → Option NormSpec := lookP []
noncomputable def slices_Index_string_string.E (K : Nat) : Env := ⟨lookR tys, bty, fullCall slices_Index_string_string.its (slices_Index_string_string.tb K) bids⟩
noncomputable def slices_Index_string_string.ret (K : Nat) : St → Option (resT [(.int .i64)]).den := retA (slices_Index_string_string.E K) [(.int .i64)] [(.tmp 4)]
noncomputable def slices_Index_string_string.C (K : Nat) : CEnv (resT [(.int .i64)]).den := ⟨slices_Index_string_string.E K, 19, K, slices_Index_string_string.nm, slices_Index_string_string.ret K, [], fun _ => false, slices_Index_string_string.pre, lookG []⟩
noncomputable def slices_Index_string_string.f (K : Nat) (x : (prodT [(.slice .str), .str]).den) : Option (resT [(.int .i64)]).den := exec slices_Index_string_string.code (slices_Index_string_string.C K) (slices_Index_string_string.ret K) (init [(.slice .str), .str] x)
noncomputable def slices_Index_string_string.m2 (s0 : (List (List UInt8))) (v1 : (List UInt8)) (t7 : Int) (t8 : Int) : St := mkSt [(0, (.d (.slice .str) (s0 : (List (List UInt8))))), (1, (.d .str (v1 : (List UInt8)))), (7, (.d (.int .i64) (t7 : Int))), (8, (.d (.int .i64) (t8 : Int)))] []
noncomputable def slices_Index_string_string.r2 (K : Nat)  (n : Nat) : St → Option Int := loopAt [.r, .l, .r, .b] slices_Index_string_string.code (slices_Index_string_string.C K) (slices_Index_string_string.ret K) [] n
noncomputable def slices_Index_string_string.l2 (K : Nat)  (n : Nat) (s0 : (List (List UInt8))) (v1 : (List UInt8)) (t7 : Int) (t8 : Int) : Option Int := slices_Index_string_string.r2 K n (slices_Index_string_string.m2 s0 v1 t7 t8)
theorem slices_Index_string_string.eq (K : Nat) (s0 : (List (List UInt8))) (v1 : (List UInt8)) : slices_Index_string_string.f K (s0, v1, ()) =
 ((slices_Index_string_string.l2 K K s0 v1 (List.length s0 : Int) (0 : Int)) : Option Int) := by kernel_rfl
theorem slices_Index_string_string.l2_succ (K : Nat)  (n : Nat) (s0 : (List (List UInt8))) (v1 : (List UInt8)) (t7 : Int) (t8 : Int) : slices_Index_string_string.l2 K (n + 1) s0 v1 t7 t8 =
 ((bif (decide (t8 < t7)) then
 (chks [(decide ((0 : Int) ≤ t8)), (decide (t8 < (List.length s0 : Int)))]
 (bif (decide (v1 = (List.getD s0 (Int.toNat t8) (DTy.dflt .str)))) then
 (some t8)
 else
 (slices_Index_string_string.l2 K n s0 v1 t7 (IntKind.wrap .i64 (t8 + (1 : Int))))))
 else
 (some (-1 : Int))) : Option Int) := by kernel_rfl
theorem slices_Index_string_string.tbOk (K : Nat) : TbOk Try.prog (slices_Index_string_string.tb K) := by
 intro e he
 simp only [slices_Index_string_string.tb, List.mem_cons, List.not_mem_nil, or_false] at he
theorem slices_Index_string_string.itsOk : ItbOk Try.prog slices_Index_string_string.its := by
 intro e he
 simp only [slices_Index_string_string.its, List.mem_cons, List.not_mem_nil, or_false] at he
theorem slices_Index_string_string.ok (K : Nat) : PureC Try.prog 96 ⟨[(.slice .str), .str], [(.int .i64)], slices_Index_string_string.f K⟩ :=
 fn_sound (itOk _ _) (E := slices_Index_string_string.E K) (full_ok tys_ok slices_Index_string_string.itsOk (slices_Index_string_string.tbOk K) par_ok bld_ok bty_ok) mixed Try.func96 (c := slices_Index_string_string.code) (by kernel_rfl) (by kernel_rfl) (by decide) (by kernel_rfl)
noncomputable def slices_Contains_string_string.tb (K : Nat) : Tb := [(96, ⟨[(.slice .str), .str], [(.int .i64)], slices_Index_string_string.f K⟩)]
noncomputable def slices_Contains_string_string.its : Itb := []
noncomputable def slices_Contains_string_string.code : Code := (Try.f81.body).getD .skip
noncomputable def slices_Contains_string_string.nm : Nat → NormSpec := lookN []
noncomputable def slices_Contains_string_string.pre : Nat → Option NormSpec := lookP []
noncomputable def slices_Contains_string_string.E (K : Nat) : Env := ⟨lookR tys, bty, fullCall slices_Contains_string_string.its (slices_Contains_string_string.tb K) bids⟩
noncomputable def slices_Contains_string_string.ret (K : Nat) : St → Option (resT [.bool]).den := retA (slices_Contains_string_string.E K) [.bool] [(.tmp 4)]
noncomputable def slices_Contains_string_string.C (K : Nat) : CEnv (resT [.bool]).den := ⟨slices_Contains_string_string.E K, 9, K, slices_Contains_string_string.nm, slices_Contains_string_string.ret K, [], fun _ => false, slices_Contains_string_string.pre, lookG []⟩
noncomputable def slices_Contains_string_string.f (K : Nat) (x : (prodT [(.slice .str), .str]).den) : Option (resT [.bool]).den := exec slices_Contains_string_string.code (slices_Contains_string_string.C K) (slices_Contains_string_string.ret K) (init [(.slice .str), .str] x)
theorem slices_Contains_string_string.eq (K : Nat) (s0 : (List (List UInt8))) (v1 : (List UInt8)) : slices_Contains_string_string.f K (s0, v1, ()) =
 (((slices_Index_string_string.f K (s0, v1, ())).bind fun v_1 =>
 (some (decide ((0 : Int) ≤ v_1)))) : Option Bool) := by kernel_rfl
theorem slices_Contains_string_string.tbOk (K : Nat) : TbOk Try.prog (slices_Contains_string_string.tb K) := by
 intro e he
 simp only [slices_Contains_string_string.tb, List.mem_cons, List.not_mem_nil, or_false] at he
 rcases he with rfl
 · exact ⟨slices_Index_string_string.ok K, enters_of Try.func96 (by kernel_rfl) rfl⟩
theorem slices_Contains_string_string.itsOk : ItbOk Try.prog slices_Contains_string_string.its := by
 intro e he
 simp only [slices_Contains_string_string.its, List.mem_cons, List.not_mem_nil, or_false] at he
theorem slices_Contains_string_string.ok (K : Nat) : PureC Try.prog 81 ⟨[(.slice .str), .str], [.bool], slices_Contains_string_string.f K⟩ :=
 fn_sound (itOk _ _) (E := slices_Contains_string_string.E K) (full_ok tys_ok slices_Contains_string_string.itsOk (slices_Contains_string_string.tbOk K) par_ok bld_ok bty_ok) mixed Try.func81 (c := slices_Contains_string_string.code) (by kernel_rfl) (by kernel_rfl) (by decide) (by kernel_rfl)
noncomputable def stringslite_HasPrefix.tb (K : Nat) : Tb := []
noncomputable def stringslite_HasPrefix.its : Itb := []
noncomputable def stringslite_HasPrefix.code : Code := (Try.f93.body).getD .skip
noncomputable def stringslite_HasPrefix.nm : Nat → NormSpec := lookN []
noncomputable def stringslite_HasPrefix.pre : Nat → Option NormSpec := lookP []
noncomputable def stringslite_HasPrefix.E (K : Nat) : Env := ⟨lookR tys, bty, fullCall stringslite_HasPrefix.its (stringslite_HasPrefix.tb K) bids⟩
noncomputable def stringslite_HasPrefix.ret (K : Nat) : St → Option (resT [.bool]).den := retA (stringslite_HasPrefix.E K) [.bool] [(.tmp 4)]
noncomputable def stringslite_HasPrefix.C (K : Nat) : CEnv (resT [.bool]).den := ⟨stringslite_HasPrefix.E K, 18, K, stringslite_HasPrefix.nm, stringslite_HasPrefix.ret K, [], fun _ => false, stringslite_HasPrefix.pre, lookG []⟩
noncomputable def stringslite_HasPrefix.f (K : Nat) (x : (prodT [.str, .str]).den) : Option (resT [.bool]).den := exec stringslite_HasPrefix.code (stringslite_HasPrefix.C K) (stringslite_HasPrefix.ret K) (init [.str, .str] x)
theorem stringslite_HasPrefix.eq (K : Nat) (s0 : (List UInt8)) (prefix1 : (List UInt8)) : stringslite_HasPrefix.f K (s0, prefix1, ()) =
 ((bif (decide ((List.length prefix1 : Int) ≤ (List.length s0 : Int))) then
 (chks [(decide ((0 : Int) ≤ (List.length prefix1 : Int))), (decide ((List.length prefix1 : Int) ≤ (List.length s0 : Int)))]
 (some (decide ((cutL s0 none (some (List.length prefix1 : Int))) = prefix1))))
 else
 (some false)) : Option Bool) := by kernel_rfl
theorem stringslite_HasPrefix.tbOk (K : Nat) : TbOk Try.prog (stringslite_HasPrefix.tb K) := by
 intro e he
 simp only [stringslite_HasPrefix.tb, List.mem_cons, List.not_mem_nil, or_false] at he
theorem stringslite_HasPrefix.itsOk : ItbOk Try.prog stringslite_HasPrefix.its := by
 intro e he
 simp only [stringslite_HasPrefix.its, List.mem_cons, List.not_mem_nil, or_false] at he
theorem stringslite_HasPrefix.ok (K : Nat) : PureC Try.prog 93 ⟨[.str, .str], [.bool], stringslite_HasPrefix.f K⟩ :=
 fn_sound (itOk _ _) (E := stringslite_HasPrefix.E K) (full_ok tys_ok stringslite_HasPrefix.itsOk (stringslite_HasPrefix.tbOk K) par_ok bld_ok bty_ok) mixed Try.func93 (c := stringslite_HasPrefix.code) (by kernel_rfl) (by kernel_rfl) (by decide) (by kernel_rfl)
noncomputable def stringslite_TrimPrefix.tb (K : Nat) : Tb := [(93, ⟨[.str, .str], [.bool], stringslite_HasPrefix.f K⟩)]
noncomputable def stringslite_TrimPrefix.its : Itb := []
noncomputable def stringslite_TrimPrefix.code : Code := (Try.f75.body).getD .skip
noncomputable def stringslite_TrimPrefix.nm : Nat → NormSpec := lookN []
noncomputable def stringslite_TrimPrefix.pre : Nat → Option NormSpec := lookP []
noncomputable def stringslite_TrimPrefix.E (K : Nat) : Env := ⟨lookR tys, bty, fullCall stringslite_TrimPrefix.its (stringslite_TrimPrefix.tb K) bids⟩
noncomputable def stringslite_TrimPrefix.ret (K : Nat) : St → Option (resT [.str]).den := retA (stringslite_TrimPrefix.E K) [.str] [(.tmp 4)]
noncomputable def stringslite_TrimPrefix.C (K : Nat) : CEnv (resT [.str]).den := ⟨stringslite_TrimPrefix.E K, 13, K, stringslite_TrimPrefix.nm, stringslite_TrimPrefix.ret K, [], fun _ => false, stringslite_TrimPrefix.pre, lookG []⟩
noncomputable def stringslite_TrimPrefix.f (K : Nat) (x : (prodT [.str, .str]).den) : Option (resT [.str]).den := exec stringslite_TrimPrefix.code (stringslite_TrimPrefix.C K) (stringslite_TrimPrefix.ret K) (init [.str, .str] x)
theorem stringslite_TrimPrefix.eq (K : Nat) (s0 : (List UInt8)) (prefix1 : (List UInt8)) : stringslite_TrimPrefix.f K (s0, prefix1, ()) =
 (((stringslite_HasPrefix.f K (s0, prefix1, ())).bind fun v_1 =>
 (bif v_1 then
 (chks [(decide ((0 : Int) ≤ (List.length prefix1 : Int))), (decide ((List.length prefix1 : Int) ≤ (List.length s0 : Int)))]
 (some (cutL s0 (some (List.length prefix1 : Int)) none)))
 else
 (some s0))) : Option (List UInt8)) := by kernel_rfl
theorem stringslite_TrimPrefix.tbOk (K : Nat) : TbOk Try.prog (stringslite_TrimPrefix.tb K) := by
 intro e he
 simp only [stringslite_TrimPrefix.tb, List.mem_cons, List.not_mem_nil, or_false] at he
 rcases he with rfl
 · exact ⟨stringslite_HasPrefix.ok K, enters_of Try.func93 (by kernel_rfl) rfl⟩
theorem stringslite_TrimPrefix.itsOk : ItbOk Try.prog stringslite_TrimPrefix.its := by
 intro e he
 simp only [stringslite_TrimPrefix.its, List.mem_cons, List.not_mem_nil, or_false] at he
theorem stringslite_TrimPrefix.ok (K : Nat) : PureC Try.prog 75 ⟨[.str, .str], [.str], stringslite_TrimPrefix.f K⟩ :=
 fn_sound (itOk _ _) (E := stringslite_TrimPrefix.E K) (full_ok tys_ok stringslite_TrimPrefix.itsOk (stringslite_TrimPrefix.tbOk K) par_ok bld_ok bty_ok) mixed Try.func75 (c := stringslite_TrimPrefix.code) (by kernel_rfl) (by kernel_rfl) (by decide) (by kernel_rfl)
noncomputable def strings_TrimPrefix.tb (K : Nat) : Tb := [(75, ⟨[.str, .str], [.str], stringslite_TrimPrefix.f K⟩)]
noncomputable def strings_TrimPrefix.its : Itb := []
noncomputable def strings_TrimPrefix.code : Code := (Try.f36.body).getD .skip
noncomputable def strings_TrimPrefix.nm : Nat → NormSpec := lookN []
noncomputable def strings_TrimPrefix.pre : Nat → Option NormSpec := lookP []
noncomputable def strings_TrimPrefix.E (K : Nat) : Env := ⟨lookR tys, bty, fullCall strings_TrimPrefix.its (strings_TrimPrefix.tb K) bids⟩
noncomputable def strings_TrimPrefix.ret (K : Nat) : St → Option (resT [.str]).den := retA (strings_TrimPrefix.E K) [.str] [(.tmp 4)]
noncomputable def strings_TrimPrefix.C (K : Nat) : CEnv (resT [.str]).den := ⟨strings_TrimPrefix.E K, 8, K, strings_TrimPrefix.nm, strings_TrimPrefix.ret K, [], fun _ => false, strings_TrimPrefix.pre, lookG []⟩
noncomputable def strings_TrimPrefix.f (K : Nat) (x : (prodT [.str, .str]).den) : Option (resT [.str]).den := exec strings_TrimPrefix.code (strings_TrimPrefix.C K) (strings_TrimPrefix.ret K) (init [.str, .str] x)
theorem strings_TrimPrefix.eq (K : Nat) (s0 : (List UInt8)) (prefix1 : (List UInt8)) : strings_TrimPrefix.f K (s0, prefix1, ()) =
 (((stringslite_TrimPrefix.f K (s0, prefix1, ())).bind fun v_1 =>
 (some v_1)) : Option (List UInt8)) := by kernel_rfl
theorem strings_TrimPrefix.tbOk (K : Nat) : TbOk Try.prog (strings_TrimPrefix.tb K) := by
 intro e he
 simp only [strings_TrimPrefix.tb, List.mem_cons, List.not_mem_nil, or_false] at he
 rcases he with rfl
 · exact ⟨stringslite_TrimPrefix.ok K, enters_of Try.func75 (by kernel_rfl) rfl⟩
theorem strings_TrimPrefix.itsOk : ItbOk Try.prog strings_TrimPrefix.its := by
 intro e he
 simp only [strings_TrimPrefix.its, List.mem_cons, List.not_mem_nil, or_false] at he
theorem strings_TrimPrefix.ok (K : Nat) : PureC Try.prog 36 ⟨[.str, .str], [.str], strings_TrimPrefix.f K⟩ :=
 fn_sound (itOk _ _) (E := strings_TrimPrefix.E K) (full_ok tys_ok strings_TrimPrefix.itsOk (strings_TrimPrefix.tbOk K) par_ok bld_ok bty_ok) mixed Try.func36 (c := strings_TrimPrefix.code) (by kernel_rfl) (by kernel_rfl) (by decide) (by kernel_rfl)
noncomputable def card_One.tb (K : Nat) : Tb := []
noncomputable def card_One.its : Itb := [(38, ⟨[(.slice T49), (.int .u8)], (.prod (.int .i64) (.prod (.slice .str) .unit)), card_Of.L⟩)]
noncomputable def card_One.code : Code := (Try.f28.body).getD .skip
noncomputable def card_One.nm : Nat → NormSpec := lookN [(4, ⟨[(4, (.vec .str)), (5, (.data (.int .i64))), (6, .raw), (7, .raw)], [(6, [(.data (.slice .str))]), (7, [(.data (.int .i64))])], []⟩)]
noncomputable def card_One.pre : Nat → Option NormSpec := lookP []
noncomputable def card_One.E (K : Nat) : Env := ⟨lookR tys, bty, fullCall card_One.its (card_One.tb K) bids⟩
noncomputable def card_One.ret (K : Nat) : St → Option (resT [(.slice .str), (.int .i64)]).den := retA (card_One.E K) [(.slice .str), (.int .i64)] [(.tmp 4), (.tmp 5)]
noncomputable def card_One.C (K : Nat) : CEnv (resT [(.slice .str), (.int .i64)]).den := ⟨card_One.E K, 22, K, card_One.nm, card_One.ret K, [], fun _ => false, card_One.pre, lookG []⟩
noncomputable def card_One.f (K : Nat) (x : (prodT [(.slice T49), (.int .u8)]).den) : Option (resT [(.slice .str), (.int .i64)]).den := exec card_One.code (card_One.C K) (card_One.ret K) (init [(.slice T49), (.int .u8)] x)
noncomputable def card_One.m4 (t4 : (List (List UInt8))) (t5 : Int) (bout6_0 : (List (List UInt8))) (bn7_0 : Int) : St := mkSt [(4, (.vs 4 0 .str (t4 : List (List UInt8)))), (5, (.d (.int .i64) (t5 : Int))), (6, (.ptr 6 0)), (7, (.ptr 7 0))] [(4, (.vec .str 0)), (6, (.box [(.d (.slice .str) (bout6_0 : (List (List UInt8))))])), (7, (.box [(.d (.int .i64) (bn7_0 : Int))]))]
noncomputable def card_One.r4 (K : Nat)  (l : List D49) : St → Option ((List (List UInt8)) × Int × Unit) := rangeAt [.r, .r, .r, .l, .r, .b] card_One.code (card_One.C K) (card_One.ret K) [] (.prod (.int .i64) (.prod (.slice .str) .unit)) l
noncomputable def card_One.i4 (K : Nat)  (l : List D49) (t4 : (List (List UInt8))) (t5 : Int) (bout6_0 : (List (List UInt8))) (bn7_0 : Int) : Option ((List (List UInt8)) × Int × Unit) := card_One.r4 K l (card_One.m4 t4 t5 bout6_0 bn7_0)
theorem card_One.eq (K : Nat) (l0 : (List D49)) (letter1 : Int) : card_One.f K (l0, letter1, ()) =
 (((card_Of.L (l0, letter1, ())).bind fun v_1 =>
 (card_One.i4 K v_1 ([] : (List (List UInt8))) (0 : Int) ([] : (List (List UInt8))) (0 : Int))) : Option ((List (List UInt8)) × Int × Unit)) := by kernel_rfl
theorem card_One.i4_nil (K : Nat)  (t4 : (List (List UInt8))) (t5 : Int) (bout6_0 : (List (List UInt8))) (bn7_0 : Int) : card_One.i4 K [] t4 t5 bout6_0 bn7_0 =
 ((some (bout6_0, bn7_0, ())) : Option ((List (List UInt8)) × Int × Unit)) := by kernel_rfl
theorem card_One.i4_cons (K : Nat)  (x4 : D49) (l : List D49) (t4 : (List (List UInt8))) (t5 : Int) (bout6_0 : (List (List UInt8))) (bn7_0 : Int) : card_One.i4 K (x4 :: l) t4 t5 bout6_0 bn7_0 =
 ((bif (decide (bn7_0 = (0 : Int))) then
 (card_One.i4 K l t4 t5 x4.2.1 (IntKind.wrap .i64 (bn7_0 + (1 : Int))))
 else
 (card_One.i4 K l t4 t5 bout6_0 (IntKind.wrap .i64 (bn7_0 + (1 : Int))))) : Option ((List (List UInt8)) × Int × Unit)) := by kernel_rfl
theorem card_One.tbOk (K : Nat) : TbOk Try.prog (card_One.tb K) := by
 intro e he
 simp only [card_One.tb, List.mem_cons, List.not_mem_nil, or_false] at he
theorem card_One.itsOk : ItbOk Try.prog card_One.its := by
 intro e he
 simp only [card_One.its, List.mem_cons, List.not_mem_nil, or_false] at he
 rcases he with rfl
 · exact ⟨card_Of.itc, enters_of Try.func38 (by kernel_rfl) rfl⟩
theorem card_One.ok (K : Nat) : PureC Try.prog 28 ⟨[(.slice T49), (.int .u8)], [(.slice .str), (.int .i64)], card_One.f K⟩ :=
 fn_sound (itOk _ _) (E := card_One.E K) (full_ok tys_ok card_One.itsOk (card_One.tbOk K) par_ok bld_ok bty_ok) mixed Try.func28 (c := card_One.code) (by kernel_rfl) (by kernel_rfl) (by decide) (by kernel_rfl)
noncomputable def checkin_dated.tb (K : Nat) : Tb := []
noncomputable def checkin_dated.its : Itb := []
noncomputable def checkin_dated.code : Code := (Try.f53.body).getD .skip
noncomputable def checkin_dated.nm : Nat → NormSpec := lookN []
noncomputable def checkin_dated.pre : Nat → Option NormSpec := lookP []
noncomputable def checkin_dated.E (K : Nat) : Env := ⟨lookR tys, bty, fullCall checkin_dated.its (checkin_dated.tb K) bids⟩
noncomputable def checkin_dated.ret (K : Nat) : St → Option (resT [.bool]).den := retA (checkin_dated.E K) [.bool] [(.tmp 2)]
noncomputable def checkin_dated.C (K : Nat) : CEnv (resT [.bool]).den := ⟨checkin_dated.E K, 9, K, checkin_dated.nm, checkin_dated.ret K, [], fun _ => false, checkin_dated.pre, lookG []⟩
noncomputable def checkin_dated.f (K : Nat) (x : (prodT [(.int .i64)]).den) : Option (resT [.bool]).den := exec checkin_dated.code (checkin_dated.C K) (checkin_dated.ret K) (init [(.int .i64)] x)
theorem checkin_dated.eq (K : Nat) (n0 : Int) : checkin_dated.f K (n0, ()) =
 ((bif (decide ((0 : Int) ≤ n0)) then
 (some (decide (n0 ≤ (1073741824 : Int))))
 else
 (some false)) : Option Bool) := by kernel_rfl
theorem checkin_dated.tbOk (K : Nat) : TbOk Try.prog (checkin_dated.tb K) := by
 intro e he
 simp only [checkin_dated.tb, List.mem_cons, List.not_mem_nil, or_false] at he
theorem checkin_dated.itsOk : ItbOk Try.prog checkin_dated.its := by
 intro e he
 simp only [checkin_dated.its, List.mem_cons, List.not_mem_nil, or_false] at he
theorem checkin_dated.ok (K : Nat) : PureC Try.prog 53 ⟨[(.int .i64)], [.bool], checkin_dated.f K⟩ :=
 fn_sound (itOk _ _) (E := checkin_dated.E K) (full_ok tys_ok checkin_dated.itsOk (checkin_dated.tbOk K) par_ok bld_ok bty_ok) mixed Try.func53 (c := checkin_dated.code) (by kernel_rfl) (by kernel_rfl) (by decide) (by kernel_rfl)
noncomputable def checkin_files.tb (K : Nat) : Tb := [(56, ⟨[.str], [.bool], escape_Word.f K⟩), (52, ⟨[.str], [.bool], hash_Is.f K⟩)]
noncomputable def checkin_files.its : Itb := []
noncomputable def checkin_files.code : Code := (Try.f54.body).getD .skip
noncomputable def checkin_files.nm : Nat → NormSpec := lookN [(2, ⟨[(0, (.data (.slice T56))), (1, (.data .bool)), (7, (.data (.slice T56))), (8, (.data (.int .i64))), (9, (.data (.int .i64)))], [], []⟩)]
noncomputable def checkin_files.pre : Nat → Option NormSpec := lookP []
noncomputable def checkin_files.E (K : Nat) : Env := ⟨lookR tys, bty, fullCall checkin_files.its (checkin_files.tb K) bids⟩
noncomputable def checkin_files.ret (K : Nat) : St → Option (resT [.bool]).den := retA (checkin_files.E K) [.bool] [(.tmp 4)]
noncomputable def checkin_files.C (K : Nat) : CEnv (resT [.bool]).den := ⟨checkin_files.E K, 51, K, checkin_files.nm, checkin_files.ret K, [], fun _ => false, checkin_files.pre, lookG []⟩
noncomputable def checkin_files.f (K : Nat) (x : (prodT [(.slice T56), .bool]).den) : Option (resT [.bool]).den := exec checkin_files.code (checkin_files.C K) (checkin_files.ret K) (init [(.slice T56), .bool] x)
noncomputable def checkin_files.m2 (l0 : (List D56)) (whole1 : Bool) (t7 : (List D56)) (t8 : Int) (t9 : Int) : St := mkSt [(0, (.d (.slice T56) (l0 : (List D56)))), (1, (.d .bool (whole1 : Bool))), (7, (.d (.slice T56) (t7 : (List D56)))), (8, (.d (.int .i64) (t8 : Int))), (9, (.d (.int .i64) (t9 : Int)))] []
noncomputable def checkin_files.r2 (K : Nat)  (n : Nat) : St → Option Bool := loopAt [.r, .l, .r, .b] checkin_files.code (checkin_files.C K) (checkin_files.ret K) [] n
noncomputable def checkin_files.l2 (K : Nat)  (n : Nat) (l0 : (List D56)) (whole1 : Bool) (t7 : (List D56)) (t8 : Int) (t9 : Int) : Option Bool := checkin_files.r2 K n (checkin_files.m2 l0 whole1 t7 t8 t9)
theorem checkin_files.eq (K : Nat) (l0 : (List D56)) (whole1 : Bool) : checkin_files.f K (l0, whole1, ()) =
 ((checkin_files.l2 K K l0 whole1 l0 (List.length l0 : Int) (0 : Int)) : Option Bool) := by kernel_rfl
theorem checkin_files.l2_succ (K : Nat)  (n : Nat) (l0 : (List D56)) (whole1 : Bool) (t7 : (List D56)) (t8 : Int) (t9 : Int) : checkin_files.l2 K (n + 1) l0 whole1 t7 t8 t9 =
 ((bif (decide (t9 < t8)) then
 (chks [(decide ((0 : Int) ≤ t9)), (decide (t9 < (List.length t7 : Int)))]
 ((escape_Word.f K ((List.getD t7 (Int.toNat t9) (DTy.dflt T56)).1, ())).bind fun v_1 =>
 (bif (!v_1) then
 (some false)
 else
 (bif (decide ((0 : Int) < t9)) then
 (chks [(decide ((0 : Int) ≤ (IntKind.wrap .i64 (t9 - (1 : Int))))), (decide ((IntKind.wrap .i64 (t9 - (1 : Int))) < (List.length l0 : Int)))]
 (bif (!(Op.bytesLess (List.getD l0 (Int.toNat (IntKind.wrap .i64 (t9 - (1 : Int)))) (DTy.dflt T56)).1 (List.getD t7 (Int.toNat t9) (DTy.dflt T56)).1)) then
 (some false)
 else
 ((hash_Is.f K ((List.getD t7 (Int.toNat t9) (DTy.dflt T56)).2.1, ())).bind fun v_2 =>
 (bif (!v_2) then
 (bif whole1 then
 (some false)
 else
 (bif (!(decide ((List.getD t7 (Int.toNat t9) (DTy.dflt T56)).2.1 = ([] : List UInt8)))) then
 (some false)
 else
 (checkin_files.l2 K n l0 whole1 t7 t8 (IntKind.wrap .i64 (t9 + (1 : Int))))))
 else
 (checkin_files.l2 K n l0 whole1 t7 t8 (IntKind.wrap .i64 (t9 + (1 : Int))))))))
 else
 ((hash_Is.f K ((List.getD t7 (Int.toNat t9) (DTy.dflt T56)).2.1, ())).bind fun v_3 =>
 (bif (!v_3) then
 (bif whole1 then
 (some false)
 else
 (bif (!(decide ((List.getD t7 (Int.toNat t9) (DTy.dflt T56)).2.1 = ([] : List UInt8)))) then
 (some false)
 else
 (checkin_files.l2 K n l0 whole1 t7 t8 (IntKind.wrap .i64 (t9 + (1 : Int))))))
 else
 (checkin_files.l2 K n l0 whole1 t7 t8 (IntKind.wrap .i64 (t9 + (1 : Int))))))))))
 else
 (some (decide ((List.length l0 : Int) ≤ (12 : Int))))) : Option Bool) := by kernel_rfl
theorem checkin_files.tbOk (K : Nat) : TbOk Try.prog (checkin_files.tb K) := by
 intro e he
 simp only [checkin_files.tb, List.mem_cons, List.not_mem_nil, or_false] at he
 rcases he with rfl | rfl
 · exact ⟨escape_Word.ok K, enters_of Try.func56 (by kernel_rfl) rfl⟩
 · exact ⟨hash_Is.ok K, enters_of Try.func52 (by kernel_rfl) rfl⟩
theorem checkin_files.itsOk : ItbOk Try.prog checkin_files.its := by
 intro e he
 simp only [checkin_files.its, List.mem_cons, List.not_mem_nil, or_false] at he
theorem checkin_files.ok (K : Nat) : PureC Try.prog 54 ⟨[(.slice T56), .bool], [.bool], checkin_files.f K⟩ :=
 fn_sound (itOk _ _) (E := checkin_files.E K) (full_ok tys_ok checkin_files.itsOk (checkin_files.tbOk K) par_ok bld_ok bty_ok) mixed Try.func54 (c := checkin_files.code) (by kernel_rfl) (by kernel_rfl) (by decide) (by kernel_rfl)
noncomputable def checkin_names.tb (K : Nat) : Tb := [(52, ⟨[.str], [.bool], hash_Is.f K⟩), (81, ⟨[(.slice .str), .str], [.bool], slices_Contains_string_string.f K⟩)]
noncomputable def checkin_names.its : Itb := []
noncomputable def checkin_names.code : Code := (Try.f55.body).getD .skip
noncomputable def checkin_names.nm : Nat → NormSpec := lookN [(2, ⟨[(0, (.data (.slice .str))), (1, (.data (.int .i64))), (7, (.data (.slice .str))), (8, (.data (.int .i64))), (9, (.data (.int .i64)))], [], []⟩)]
noncomputable def checkin_names.pre : Nat → Option NormSpec := lookP []
noncomputable def checkin_names.E (K : Nat) : Env := ⟨lookR tys, bty, fullCall checkin_names.its (checkin_names.tb K) bids⟩
noncomputable def checkin_names.ret (K : Nat) : St → Option (resT [.bool]).den := retA (checkin_names.E K) [.bool] [(.tmp 4)]
noncomputable def checkin_names.C (K : Nat) : CEnv (resT [.bool]).den := ⟨checkin_names.E K, 29, K, checkin_names.nm, checkin_names.ret K, [], fun _ => false, checkin_names.pre, lookG []⟩
noncomputable def checkin_names.f (K : Nat) (x : (prodT [(.slice .str), (.int .i64)]).den) : Option (resT [.bool]).den := exec checkin_names.code (checkin_names.C K) (checkin_names.ret K) (init [(.slice .str), (.int .i64)] x)
noncomputable def checkin_names.m2 (l0 : (List (List UInt8))) (most1 : Int) (t7 : (List (List UInt8))) (t8 : Int) (t9 : Int) : St := mkSt [(0, (.d (.slice .str) (l0 : (List (List UInt8))))), (1, (.d (.int .i64) (most1 : Int))), (7, (.d (.slice .str) (t7 : (List (List UInt8))))), (8, (.d (.int .i64) (t8 : Int))), (9, (.d (.int .i64) (t9 : Int)))] []
noncomputable def checkin_names.r2 (K : Nat)  (n : Nat) : St → Option Bool := loopAt [.r, .l, .r, .b] checkin_names.code (checkin_names.C K) (checkin_names.ret K) [] n
noncomputable def checkin_names.l2 (K : Nat)  (n : Nat) (l0 : (List (List UInt8))) (most1 : Int) (t7 : (List (List UInt8))) (t8 : Int) (t9 : Int) : Option Bool := checkin_names.r2 K n (checkin_names.m2 l0 most1 t7 t8 t9)
theorem checkin_names.eq (K : Nat) (l0 : (List (List UInt8))) (most1 : Int) : checkin_names.f K (l0, most1, ()) =
 ((checkin_names.l2 K K l0 most1 l0 (List.length l0 : Int) (0 : Int)) : Option Bool) := by kernel_rfl
theorem checkin_names.l2_succ (K : Nat)  (n : Nat) (l0 : (List (List UInt8))) (most1 : Int) (t7 : (List (List UInt8))) (t8 : Int) (t9 : Int) : checkin_names.l2 K (n + 1) l0 most1 t7 t8 t9 =
 ((bif (decide (t9 < t8)) then
 (chks [(decide ((0 : Int) ≤ t9)), (decide (t9 < (List.length t7 : Int)))]
 ((hash_Is.f K ((List.getD t7 (Int.toNat t9) (DTy.dflt .str)), ())).bind fun v_1 =>
 (bif (!v_1) then
 (some false)
 else
 (chks [(decide ((0 : Int) ≤ t9)), (decide (t9 ≤ (List.length l0 : Int)))]
 ((slices_Contains_string_string.f K ((cutL l0 none (some t9)), (List.getD t7 (Int.toNat t9) (DTy.dflt .str)), ())).bind fun v_2 =>
 (bif v_2 then
 (some false)
 else
 (checkin_names.l2 K n l0 most1 t7 t8 (IntKind.wrap .i64 (t9 + (1 : Int))))))))))
 else
 (some (decide ((List.length l0 : Int) ≤ most1)))) : Option Bool) := by kernel_rfl
theorem checkin_names.tbOk (K : Nat) : TbOk Try.prog (checkin_names.tb K) := by
 intro e he
 simp only [checkin_names.tb, List.mem_cons, List.not_mem_nil, or_false] at he
 rcases he with rfl | rfl
 · exact ⟨hash_Is.ok K, enters_of Try.func52 (by kernel_rfl) rfl⟩
 · exact ⟨slices_Contains_string_string.ok K, enters_of Try.func81 (by kernel_rfl) rfl⟩
theorem checkin_names.itsOk : ItbOk Try.prog checkin_names.its := by
 intro e he
 simp only [checkin_names.its, List.mem_cons, List.not_mem_nil, or_false] at he
theorem checkin_names.ok (K : Nat) : PureC Try.prog 55 ⟨[(.slice .str), (.int .i64)], [.bool], checkin_names.f K⟩ :=
 fn_sound (itOk _ _) (E := checkin_names.E K) (full_ok tys_ok checkin_names.itsOk (checkin_names.tbOk K) par_ok bld_ok bty_ok) mixed Try.func55 (c := checkin_names.code) (by kernel_rfl) (by kernel_rfl) (by decide) (by kernel_rfl)
noncomputable def checkin_Right.tb (K : Nat) : Tb := [(53, ⟨[(.int .i64)], [.bool], checkin_dated.f K⟩), (54, ⟨[(.slice T56), .bool], [.bool], checkin_files.f K⟩), (55, ⟨[(.slice .str), (.int .i64)], [.bool], checkin_names.f K⟩), (22, ⟨[.bool, (.slice T42)], [.bool], checkin_RightTags.f K⟩), (56, ⟨[.str], [.bool], escape_Word.f K⟩), (52, ⟨[.str], [.bool], hash_Is.f K⟩)]
noncomputable def checkin_Right.its : Itb := []
noncomputable def checkin_Right.code : Code := (Try.f16.body).getD .skip
noncomputable def checkin_Right.nm : Nat → NormSpec := lookN []
noncomputable def checkin_Right.pre : Nat → Option NormSpec := lookP []
noncomputable def checkin_Right.E (K : Nat) : Env := ⟨lookR tys, bty, fullCall checkin_Right.its (checkin_Right.tb K) bids⟩
noncomputable def checkin_Right.ret (K : Nat) : St → Option (resT [.bool]).den := retA (checkin_Right.E K) [.bool] [(.tmp 2)]
noncomputable def checkin_Right.C (K : Nat) : CEnv (resT [.bool]).den := ⟨checkin_Right.E K, 45, K, checkin_Right.nm, checkin_Right.ret K, [], fun _ => false, checkin_Right.pre, lookG []⟩
noncomputable def checkin_Right.f (K : Nat) (x : (prodT [T27]).den) : Option (resT [.bool]).den := exec checkin_Right.code (checkin_Right.C K) (checkin_Right.ret K) (init [T27] x)
theorem checkin_Right.eq (K : Nat) (c0 : D27) : checkin_Right.f K (c0, ()) =
 ((bif (decide (c0.1 = ([] : List UInt8))) then
 (bif (decide ((List.length c0.2.1 : Int) ≤ (40 : Int))) then
 ((checkin_dated.f K (c0.2.2.1, ())).bind fun v_1 =>
 (bif v_1 then
 ((checkin_files.f K (c0.2.2.2.1, (decide (c0.1 = ([] : List UInt8))), ())).bind fun v_2 =>
 (bif v_2 then
 ((checkin_names.f K (c0.2.2.2.2.1, (3 : Int), ())).bind fun v_3 =>
 (bif v_3 then
 ((checkin_RightTags.f K (true, c0.2.2.2.2.2.1, ())).bind fun v_4 =>
 (bif v_4 then
 ((escape_Word.f K (c0.2.2.2.2.2.2.1, ())).bind fun v_5 =>
 (some v_5))
 else
 (some false)))
 else
 (some false)))
 else
 (some false)))
 else
 (some false)))
 else
 (some false))
 else
 ((hash_Is.f K (c0.1, ())).bind fun v_6 =>
 (bif v_6 then
 (bif (decide ((List.length c0.2.1 : Int) ≤ (40 : Int))) then
 ((checkin_dated.f K (c0.2.2.1, ())).bind fun v_7 =>
 (bif v_7 then
 ((checkin_files.f K (c0.2.2.2.1, (decide (c0.1 = ([] : List UInt8))), ())).bind fun v_8 =>
 (bif v_8 then
 ((checkin_names.f K (c0.2.2.2.2.1, (3 : Int), ())).bind fun v_9 =>
 (bif v_9 then
 ((checkin_RightTags.f K (true, c0.2.2.2.2.2.1, ())).bind fun v_10 =>
 (bif v_10 then
 ((escape_Word.f K (c0.2.2.2.2.2.2.1, ())).bind fun v_11 =>
 (some v_11))
 else
 (some false)))
 else
 (some false)))
 else
 (some false)))
 else
 (some false)))
 else
 (some false))
 else
 (some false)))) : Option Bool) := by kernel_rfl
theorem checkin_Right.tbOk (K : Nat) : TbOk Try.prog (checkin_Right.tb K) := by
 intro e he
 simp only [checkin_Right.tb, List.mem_cons, List.not_mem_nil, or_false] at he
 rcases he with rfl | rfl | rfl | rfl | rfl | rfl
 · exact ⟨checkin_dated.ok K, enters_of Try.func53 (by kernel_rfl) rfl⟩
 · exact ⟨checkin_files.ok K, enters_of Try.func54 (by kernel_rfl) rfl⟩
 · exact ⟨checkin_names.ok K, enters_of Try.func55 (by kernel_rfl) rfl⟩
 · exact ⟨checkin_RightTags.ok K, enters_of Try.func22 (by kernel_rfl) rfl⟩
 · exact ⟨escape_Word.ok K, enters_of Try.func56 (by kernel_rfl) rfl⟩
 · exact ⟨hash_Is.ok K, enters_of Try.func52 (by kernel_rfl) rfl⟩
theorem checkin_Right.itsOk : ItbOk Try.prog checkin_Right.its := by
 intro e he
 simp only [checkin_Right.its, List.mem_cons, List.not_mem_nil, or_false] at he
theorem checkin_Right.ok (K : Nat) : PureC Try.prog 16 ⟨[T27], [.bool], checkin_Right.f K⟩ :=
 fn_sound (itOk _ _) (E := checkin_Right.E K) (full_ok tys_ok checkin_Right.itsOk (checkin_Right.tbOk K) par_ok bld_ok bty_ok) mixed Try.func16 (c := checkin_Right.code) (by kernel_rfl) (by kernel_rfl) (by decide) (by kernel_rfl)
noncomputable def checkin_Same.tb (K : Nat) : Tb := [(61, ⟨[(.slice T56), (.slice T56)], [.bool], slices_Equal_File.f K⟩), (62, ⟨[(.slice .str), (.slice .str)], [.bool], slices_Equal_string_string.f K⟩), (63, ⟨[(.slice T42), (.slice T42)], [.bool], slices_Equal_TagOp.f K⟩)]
noncomputable def checkin_Same.its : Itb := []
noncomputable def checkin_Same.code : Code := (Try.f26.body).getD .skip
noncomputable def checkin_Same.nm : Nat → NormSpec := lookN []
noncomputable def checkin_Same.pre : Nat → Option NormSpec := lookP []
noncomputable def checkin_Same.E (K : Nat) : Env := ⟨lookR tys, bty, fullCall checkin_Same.its (checkin_Same.tb K) bids⟩
noncomputable def checkin_Same.ret (K : Nat) : St → Option (resT [.bool]).den := retA (checkin_Same.E K) [.bool] [(.tmp 4)]
noncomputable def checkin_Same.C (K : Nat) : CEnv (resT [.bool]).den := ⟨checkin_Same.E K, 52, K, checkin_Same.nm, checkin_Same.ret K, [], fun _ => false, checkin_Same.pre, lookG []⟩
noncomputable def checkin_Same.f (K : Nat) (x : (prodT [T27, T27]).den) : Option (resT [.bool]).den := exec checkin_Same.code (checkin_Same.C K) (checkin_Same.ret K) (init [T27, T27] x)
theorem checkin_Same.eq (K : Nat) (a0 : D27) (b1 : D27) : checkin_Same.f K (a0, b1, ()) =
 ((bif (decide (a0.1 = b1.1)) then
 (bif (decide (a0.2.1 = b1.2.1)) then
 (bif (decide (a0.2.2.1 = b1.2.2.1)) then
 (bif (decide (a0.2.2.2.2.2.2.1 = b1.2.2.2.2.2.2.1)) then
 ((slices_Equal_File.f K (a0.2.2.2.1, b1.2.2.2.1, ())).bind fun v_1 =>
 (bif v_1 then
 ((slices_Equal_string_string.f K (a0.2.2.2.2.1, b1.2.2.2.2.1, ())).bind fun v_2 =>
 (bif v_2 then
 ((slices_Equal_TagOp.f K (a0.2.2.2.2.2.1, b1.2.2.2.2.2.1, ())).bind fun v_3 =>
 (some v_3))
 else
 (some false)))
 else
 (some false)))
 else
 (some false))
 else
 (some false))
 else
 (some false))
 else
 (some false)) : Option Bool) := by kernel_rfl
theorem checkin_Same.tbOk (K : Nat) : TbOk Try.prog (checkin_Same.tb K) := by
 intro e he
 simp only [checkin_Same.tb, List.mem_cons, List.not_mem_nil, or_false] at he
 rcases he with rfl | rfl | rfl
 · exact ⟨slices_Equal_File.ok K, enters_of Try.func61 (by kernel_rfl) rfl⟩
 · exact ⟨slices_Equal_string_string.ok K, enters_of Try.func62 (by kernel_rfl) rfl⟩
 · exact ⟨slices_Equal_TagOp.ok K, enters_of Try.func63 (by kernel_rfl) rfl⟩
theorem checkin_Same.itsOk : ItbOk Try.prog checkin_Same.its := by
 intro e he
 simp only [checkin_Same.its, List.mem_cons, List.not_mem_nil, or_false] at he
theorem checkin_Same.ok (K : Nat) : PureC Try.prog 26 ⟨[T27, T27], [.bool], checkin_Same.f K⟩ :=
 fn_sound (itOk _ _) (E := checkin_Same.E K) (full_ok tys_ok checkin_Same.itsOk (checkin_Same.tbOk K) par_ok bld_ok bty_ok) mixed Try.func26 (c := checkin_Same.code) (by kernel_rfl) (by kernel_rfl) (by decide) (by kernel_rfl)
noncomputable def checkin_one.tb (K : Nat) : Tb := []
noncomputable def checkin_one.its : Itb := []
noncomputable def checkin_one.code : Code := (Try.f30.body).getD .skip
noncomputable def checkin_one.nm : Nat → NormSpec := lookN []
noncomputable def checkin_one.pre : Nat → Option NormSpec := lookP []
noncomputable def checkin_one.E (K : Nat) : Env := ⟨lookR tys, bty, fullCall checkin_one.its (checkin_one.tb K) bids⟩
noncomputable def checkin_one.ret (K : Nat) : St → Option (resT [T49]).den := retA (checkin_one.E K) [T49] [(.cell 4 49)]
noncomputable def checkin_one.C (K : Nat) : CEnv (resT [T49]).den := ⟨checkin_one.E K, 8, K, checkin_one.nm, checkin_one.ret K, [], fun _ => false, checkin_one.pre, lookG []⟩
noncomputable def checkin_one.f (K : Nat) (x : (prodT [(.int .u8), (.slice .str)]).den) : Option (resT [T49]).den := exec checkin_one.code (checkin_one.C K) (checkin_one.ret K) (init [(.int .u8), (.slice .str)] x)
theorem checkin_one.eq (K : Nat) (letter0 : Int) (args1 : (List (List UInt8))) : checkin_one.f K (letter0, args1, ()) =
 ((some (letter0, (args1, ()))) : Option D49) := by kernel_rfl
theorem checkin_one.tbOk (K : Nat) : TbOk Try.prog (checkin_one.tb K) := by
 intro e he
 simp only [checkin_one.tb, List.mem_cons, List.not_mem_nil, or_false] at he
theorem checkin_one.itsOk : ItbOk Try.prog checkin_one.its := by
 intro e he
 simp only [checkin_one.its, List.mem_cons, List.not_mem_nil, or_false] at he
theorem checkin_one.ok (K : Nat) : PureC Try.prog 30 ⟨[(.int .u8), (.slice .str)], [T49], checkin_one.f K⟩ :=
 fn_sound (itOk _ _) (E := checkin_one.E K) (full_ok tys_ok checkin_one.itsOk (checkin_one.tbOk K) par_ok bld_ok bty_ok) mixed Try.func30 (c := checkin_one.code) (by kernel_rfl) (by kernel_rfl) (by decide) (by kernel_rfl)
noncomputable def checkin_Print.tb (K : Nat) : Tb := [(16, ⟨[T27], [.bool], checkin_Right.f K⟩), (30, ⟨[(.int .u8), (.slice .str)], [T49], checkin_one.f K⟩), (31, ⟨[.str], [.str], escape_Put.f K⟩), (32, ⟨[(.int .i64)], [.str], digit_Dec.f K⟩), (19, ⟨[(.slice T42)], [(.slice T49)], checkin_TagCards.f K⟩), (33, ⟨[(.slice T49)], [.str], card_Print.f K⟩)]
noncomputable def checkin_Print.its : Itb := []
noncomputable def checkin_Print.code : Code := (Try.f9.body).getD .skip
noncomputable def checkin_Print.nm : Nat → NormSpec := lookN [(8, ⟨[(1, .raw), (3, (.vec T49)), (34, (.data (.slice T56))), (35, (.data (.int .i64))), (36, (.data (.int .i64)))], [(1, [(.data .str), (.data .str), (.data (.int .i64)), (.data (.slice T56)), (.data (.slice .str)), (.data (.slice T42)), (.data .str)])], []⟩)]
noncomputable def checkin_Print.pre : Nat → Option NormSpec := lookP [(6, ⟨[(1, .raw), (3, (.vec T49))], [(1, [(.data .str), (.data .str), (.data (.int .i64)), (.data (.slice T56)), (.data (.slice .str)), (.data (.slice T42)), (.data .str)])], []⟩), (16, ⟨[(1, .raw), (3, (.vec T49))], [(1, [(.data .str), (.data .str), (.data (.int .i64)), (.data (.slice T56)), (.data (.slice .str)), (.data (.slice T42)), (.data .str)])], []⟩)]
noncomputable def checkin_Print.E (K : Nat) : Env := ⟨lookR tys, bty, fullCall checkin_Print.its (checkin_Print.tb K) bids⟩
noncomputable def checkin_Print.ret (K : Nat) : St → Option (resT [.str]).den := retA (checkin_Print.E K) [.str] [(.tmp 2)]
noncomputable def checkin_Print.C (K : Nat) : CEnv (resT [.str]).den := ⟨checkin_Print.E K, 82, K, checkin_Print.nm, checkin_Print.ret K, [], fun _ => false, checkin_Print.pre, lookG [(6, 0), (16, 1)]⟩
noncomputable def checkin_Print.f (K : Nat) (x : (prodT [T27]).den) : Option (resT [.str]).den := exec checkin_Print.code (checkin_Print.C K) (checkin_Print.ret K) (init [T27] x)
noncomputable def checkin_Print.m8 (l3 : (List D49)) (t34 : (List D56)) (t35 : Int) (t36 : Int) (bc1_0 : (List UInt8)) (bc1_1 : (List UInt8)) (bc1_2 : Int) (bc1_3 : (List D56)) (bc1_4 : (List (List UInt8))) (bc1_5 : (List D42)) (bc1_6 : (List UInt8)) : St := mkSt [(1, (.ptr 1 0)), (3, (.vs 3 0 T49 (l3 : List D49))), (34, (.d (.slice T56) (t34 : (List D56)))), (35, (.d (.int .i64) (t35 : Int))), (36, (.d (.int .i64) (t36 : Int)))] [(3, (.vec T49 0)), (1, (.box [(.d .str (bc1_0 : (List UInt8))), (.d .str (bc1_1 : (List UInt8))), (.d (.int .i64) (bc1_2 : Int)), (.d (.slice T56) (bc1_3 : (List D56))), (.d (.slice .str) (bc1_4 : (List (List UInt8)))), (.d (.slice T42) (bc1_5 : (List D42))), (.d .str (bc1_6 : (List UInt8)))]))]
noncomputable def checkin_Print.r8 (K : Nat)  (n : Nat) : St → Option (List UInt8) := loopAt [.r, .r, .r, .r, .r, .l, .r, .b] checkin_Print.code (checkin_Print.C K) (checkin_Print.ret K) [] n
noncomputable def checkin_Print.l8 (K : Nat)  (n : Nat) (l3 : (List D49)) (t34 : (List D56)) (t35 : Int) (t36 : Int) (bc1_0 : (List UInt8)) (bc1_1 : (List UInt8)) (bc1_2 : Int) (bc1_3 : (List D56)) (bc1_4 : (List (List UInt8))) (bc1_5 : (List D42)) (bc1_6 : (List UInt8)) : Option (List UInt8) := checkin_Print.r8 K n (checkin_Print.m8 l3 t34 t35 t36 bc1_0 bc1_1 bc1_2 bc1_3 bc1_4 bc1_5 bc1_6)
noncomputable def checkin_Print.mj6 (l3 : (List D49)) (bc1_0 : (List UInt8)) (bc1_1 : (List UInt8)) (bc1_2 : Int) (bc1_3 : (List D56)) (bc1_4 : (List (List UInt8))) (bc1_5 : (List D42)) (bc1_6 : (List UInt8)) : St := mkSt [(1, (.ptr 1 0)), (3, (.vs 3 0 T49 (l3 : List D49)))] [(3, (.vec T49 0)), (1, (.box [(.d .str (bc1_0 : (List UInt8))), (.d .str (bc1_1 : (List UInt8))), (.d (.int .i64) (bc1_2 : Int)), (.d (.slice T56) (bc1_3 : (List D56))), (.d (.slice .str) (bc1_4 : (List (List UInt8)))), (.d (.slice T42) (bc1_5 : (List D42))), (.d .str (bc1_6 : (List UInt8)))]))]
noncomputable def checkin_Print.j6 (K : Nat)  (l3 : (List D49)) (bc1_0 : (List UInt8)) (bc1_1 : (List UInt8)) (bc1_2 : Int) (bc1_3 : (List D56)) (bc1_4 : (List (List UInt8))) (bc1_5 : (List D42)) (bc1_6 : (List UInt8)) : Option (List UInt8) := pointAt [.r, .r, .r, .r, .l] checkin_Print.code (checkin_Print.C K) (checkin_Print.ret K) [] (checkin_Print.mj6 l3 bc1_0 bc1_1 bc1_2 bc1_3 bc1_4 bc1_5 bc1_6)
noncomputable def checkin_Print.mj16 (l3 : (List D49)) (bc1_0 : (List UInt8)) (bc1_1 : (List UInt8)) (bc1_2 : Int) (bc1_3 : (List D56)) (bc1_4 : (List (List UInt8))) (bc1_5 : (List D42)) (bc1_6 : (List UInt8)) : St := mkSt [(1, (.ptr 1 0)), (3, (.vs 3 0 T49 (l3 : List D49)))] [(3, (.vec T49 0)), (1, (.box [(.d .str (bc1_0 : (List UInt8))), (.d .str (bc1_1 : (List UInt8))), (.d (.int .i64) (bc1_2 : Int)), (.d (.slice T56) (bc1_3 : (List D56))), (.d (.slice .str) (bc1_4 : (List (List UInt8)))), (.d (.slice T42) (bc1_5 : (List D42))), (.d .str (bc1_6 : (List UInt8)))]))]
noncomputable def checkin_Print.j16 (K : Nat)  (l3 : (List D49)) (bc1_0 : (List UInt8)) (bc1_1 : (List UInt8)) (bc1_2 : Int) (bc1_3 : (List D56)) (bc1_4 : (List (List UInt8))) (bc1_5 : (List D42)) (bc1_6 : (List UInt8)) : Option (List UInt8) := pointAt [.r, .r, .r, .r, .r, .r, .r, .l] checkin_Print.code (checkin_Print.C K) (checkin_Print.ret K) [] (checkin_Print.mj16 l3 bc1_0 bc1_1 bc1_2 bc1_3 bc1_4 bc1_5 bc1_6)
theorem checkin_Print.eq (K : Nat) (c0 : D27) : checkin_Print.f K (c0, ()) =
 (((checkin_Right.f K ((c0.1, (c0.2.1, (c0.2.2.1, (c0.2.2.2.1, (c0.2.2.2.2.1, (c0.2.2.2.2.2.1, (c0.2.2.2.2.2.2.1, ()))))))), ())).bind fun v_1 =>
 (bif (!v_1) then
 (some ([] : List UInt8))
 else
 (bif (!(decide (c0.1 = ([] : List UInt8)))) then
 ((checkin_one.f K ((66 : Int), ([c0.1] : List (List UInt8)), ())).bind fun v_2 =>
 (chks [(growOk 0 (List.length ([(v_2.1, (v_2.2.1, ()))] : List D49)) 32)]
 (checkin_Print.j6 K ([(v_2.1, (v_2.2.1, ()))] : List D49) c0.1 c0.2.1 c0.2.2.1 c0.2.2.2.1 c0.2.2.2.2.1 c0.2.2.2.2.2.1 c0.2.2.2.2.2.2.1)))
 else
 (checkin_Print.j6 K ([] : (List D49)) c0.1 c0.2.1 c0.2.2.1 c0.2.2.2.1 c0.2.2.2.2.1 c0.2.2.2.2.2.1 c0.2.2.2.2.2.2.1)))) : Option (List UInt8)) := by kernel_rfl
theorem checkin_Print.l8_succ (K : Nat)  (n : Nat) (l3 : (List D49)) (t34 : (List D56)) (t35 : Int) (t36 : Int) (bc1_0 : (List UInt8)) (bc1_1 : (List UInt8)) (bc1_2 : Int) (bc1_3 : (List D56)) (bc1_4 : (List (List UInt8))) (bc1_5 : (List D42)) (bc1_6 : (List UInt8)) : checkin_Print.l8 K (n + 1) l3 t34 t35 t36 bc1_0 bc1_1 bc1_2 bc1_3 bc1_4 bc1_5 bc1_6 =
 ((bif (decide (t36 < t35)) then
 (chks [(decide ((0 : Int) ≤ t36)), (decide (t36 < (List.length t34 : Int)))]
 (bif (decide ((List.getD t34 (Int.toNat t36) (DTy.dflt T56)).2.1 = ([] : List UInt8))) then
 ((checkin_one.f K ((70 : Int), ([(List.getD t34 (Int.toNat t36) (DTy.dflt T56)).1] : List (List UInt8)), ())).bind fun v_1 =>
 (chks [(growOk (List.length l3) (List.length ([(v_1.1, (v_1.2.1, ()))] : List D49)) 32)]
 (checkin_Print.l8 K n (l3 ++ ([(v_1.1, (v_1.2.1, ()))] : List D49)) t34 t35 (IntKind.wrap .i64 (t36 + (1 : Int))) bc1_0 bc1_1 bc1_2 bc1_3 bc1_4 bc1_5 bc1_6)))
 else
 ((checkin_one.f K ((70 : Int), ([(List.getD t34 (Int.toNat t36) (DTy.dflt T56)).1, (List.getD t34 (Int.toNat t36) (DTy.dflt T56)).2.1] : List (List UInt8)), ())).bind fun v_2 =>
 (chks [(growOk (List.length l3) (List.length ([(v_2.1, (v_2.2.1, ()))] : List D49)) 32)]
 (checkin_Print.l8 K n (l3 ++ ([(v_2.1, (v_2.2.1, ()))] : List D49)) t34 t35 (IntKind.wrap .i64 (t36 + (1 : Int))) bc1_0 bc1_1 bc1_2 bc1_3 bc1_4 bc1_5 bc1_6)))))
 else
 (bif (decide ((0 : Int) < (List.length bc1_4 : Int))) then
 ((checkin_one.f K ((80 : Int), bc1_4, ())).bind fun v_3 =>
 (chks [(growOk (List.length l3) (List.length ([(v_3.1, (v_3.2.1, ()))] : List D49)) 32)]
 (checkin_Print.j16 K (l3 ++ ([(v_3.1, (v_3.2.1, ()))] : List D49)) bc1_0 bc1_1 bc1_2 bc1_3 bc1_4 bc1_5 bc1_6)))
 else
 (checkin_Print.j16 K l3 bc1_0 bc1_1 bc1_2 bc1_3 bc1_4 bc1_5 bc1_6))) : Option (List UInt8)) := by kernel_rfl
theorem checkin_Print.j6_eq {K : Nat} (hK : 1000 ≤ K)  (l3 : (List D49)) (bc1_0 : (List UInt8)) (bc1_1 : (List UInt8)) (bc1_2 : Int) (bc1_3 : (List D56)) (bc1_4 : (List (List UInt8))) (bc1_5 : (List D42)) (bc1_6 : (List UInt8)) : checkin_Print.j6 K l3 bc1_0 bc1_1 bc1_2 bc1_3 bc1_4 bc1_5 bc1_6 =
 (((escape_Put.f K (bc1_1, ())).bind fun v_1 =>
 (chks [(catOk ([46] : List UInt8) v_1)]
 ((checkin_one.f K ((67 : Int), ([(([46] : List UInt8) ++ v_1)] : List (List UInt8)), ())).bind fun v_2 =>
 ((digit_Dec.f K (bc1_2, ())).bind fun v_3 =>
 ((checkin_one.f K ((68 : Int), ([v_3] : List (List UInt8)), ())).bind fun v_4 =>
 (chks [(growOk (List.length l3) (List.length ([(v_2.1, (v_2.2.1, ())), (v_4.1, (v_4.2.1, ()))] : List D49)) 32)]
 (checkin_Print.l8 K K (l3 ++ ([(v_2.1, (v_2.2.1, ())), (v_4.1, (v_4.2.1, ()))] : List D49)) bc1_3 (List.length bc1_3 : Int) (0 : Int) bc1_0 bc1_1 bc1_2 bc1_3 bc1_4 bc1_5 bc1_6))))))) : Option (List UInt8)) := by
 obtain ⟨K, rfl⟩ : ∃ m, K = m + 1 := ⟨K - 1, by omega⟩
 kernel_rfl
theorem checkin_Print.j16_eq {K : Nat} (hK : 1000 ≤ K)  (l3 : (List D49)) (bc1_0 : (List UInt8)) (bc1_1 : (List UInt8)) (bc1_2 : Int) (bc1_3 : (List D56)) (bc1_4 : (List (List UInt8))) (bc1_5 : (List D42)) (bc1_6 : (List UInt8)) : checkin_Print.j16 K l3 bc1_0 bc1_1 bc1_2 bc1_3 bc1_4 bc1_5 bc1_6 =
 (((checkin_TagCards.f K (bc1_5, ())).bind fun v_1 =>
 (chks [(growOk (List.length l3) (List.length v_1) 32)]
 ((checkin_one.f K ((85 : Int), ([bc1_6] : List (List UInt8)), ())).bind fun v_2 =>
 (chks [(growOk (List.length (l3 ++ v_1)) (List.length ([(v_2.1, (v_2.2.1, ()))] : List D49)) 32)]
 ((card_Print.f K (((l3 ++ v_1) ++ ([(v_2.1, (v_2.2.1, ()))] : List D49)), ())).bind fun v_3 =>
 (some v_3)))))) : Option (List UInt8)) := by
 obtain ⟨K, rfl⟩ : ∃ m, K = m + 2 := ⟨K - 2, by omega⟩
 kernel_rfl
theorem checkin_Print.tbOk (K : Nat) : TbOk Try.prog (checkin_Print.tb K) := by
 intro e he
 simp only [checkin_Print.tb, List.mem_cons, List.not_mem_nil, or_false] at he
 rcases he with rfl | rfl | rfl | rfl | rfl | rfl
 · exact ⟨checkin_Right.ok K, enters_of Try.func16 (by kernel_rfl) rfl⟩
 · exact ⟨checkin_one.ok K, enters_of Try.func30 (by kernel_rfl) rfl⟩
 · exact ⟨escape_Put.ok K, enters_of Try.func31 (by kernel_rfl) rfl⟩
 · exact ⟨digit_Dec.ok K, enters_of Try.func32 (by kernel_rfl) rfl⟩
 · exact ⟨checkin_TagCards.ok K, enters_of Try.func19 (by kernel_rfl) rfl⟩
 · exact ⟨card_Print.ok K, enters_of Try.func33 (by kernel_rfl) rfl⟩
theorem checkin_Print.itsOk : ItbOk Try.prog checkin_Print.its := by
 intro e he
 simp only [checkin_Print.its, List.mem_cons, List.not_mem_nil, or_false] at he
theorem checkin_Print.ok (K : Nat) : PureC Try.prog 9 ⟨[T27], [.str], checkin_Print.f K⟩ :=
 fn_sound (itOk _ _) (E := checkin_Print.E K) (full_ok tys_ok checkin_Print.itsOk (checkin_Print.tbOk K) par_ok bld_ok bty_ok) mixed Try.func9 (c := checkin_Print.code) (by kernel_rfl) (by kernel_rfl) (by decide) (by kernel_rfl)
noncomputable def checkin_single.tb (K : Nat) : Tb := [(28, ⟨[(.slice T49), (.int .u8)], [(.slice .str), (.int .i64)], card_One.f K⟩)]
noncomputable def checkin_single.its : Itb := []
noncomputable def checkin_single.code : Code := (Try.f34.body).getD .skip
noncomputable def checkin_single.nm : Nat → NormSpec := lookN []
noncomputable def checkin_single.pre : Nat → Option NormSpec := lookP []
noncomputable def checkin_single.E (K : Nat) : Env := ⟨lookR tys, bty, fullCall checkin_single.its (checkin_single.tb K) bids⟩
noncomputable def checkin_single.ret (K : Nat) : St → Option (resT [.str, .bool]).den := retA (checkin_single.E K) [.str, .bool] [(.tmp 4), (.tmp 5)]
noncomputable def checkin_single.C (K : Nat) : CEnv (resT [.str, .bool]).den := ⟨checkin_single.E K, 24, K, checkin_single.nm, checkin_single.ret K, [], fun _ => false, checkin_single.pre, lookG []⟩
noncomputable def checkin_single.f (K : Nat) (x : (prodT [(.slice T49), (.int .u8)]).den) : Option (resT [.str, .bool]).den := exec checkin_single.code (checkin_single.C K) (checkin_single.ret K) (init [(.slice T49), (.int .u8)] x)
theorem checkin_single.eq (K : Nat) (l0 : (List D49)) (letter1 : Int) : checkin_single.f K (l0, letter1, ()) =
 (((card_One.f K (l0, letter1, ())).bind fun v_1 =>
 (bif (!(decide (v_1.2.1 = (1 : Int)))) then
 (some (([] : List UInt8), false, ()))
 else
 (bif (!(decide ((List.length v_1.1 : Int) = (1 : Int)))) then
 (some (([] : List UInt8), false, ()))
 else
 (chks [(decide ((0 : Int) < (List.length v_1.1 : Int)))]
 (some ((List.getD v_1.1 (Int.toNat (0 : Int)) (DTy.dflt .str)), true, ())))))) : Option ((List UInt8) × Bool × Unit)) := by kernel_rfl
theorem checkin_single.tbOk (K : Nat) : TbOk Try.prog (checkin_single.tb K) := by
 intro e he
 simp only [checkin_single.tb, List.mem_cons, List.not_mem_nil, or_false] at he
 rcases he with rfl
 · exact ⟨card_One.ok K, enters_of Try.func28 (by kernel_rfl) rfl⟩
theorem checkin_single.itsOk : ItbOk Try.prog checkin_single.its := by
 intro e he
 simp only [checkin_single.its, List.mem_cons, List.not_mem_nil, or_false] at he
theorem checkin_single.ok (K : Nat) : PureC Try.prog 34 ⟨[(.slice T49), (.int .u8)], [.str, .bool], checkin_single.f K⟩ :=
 fn_sound (itOk _ _) (E := checkin_single.E K) (full_ok tys_ok checkin_single.itsOk (checkin_single.tbOk K) par_ok bld_ok bty_ok) mixed Try.func34 (c := checkin_single.code) (by kernel_rfl) (by kernel_rfl) (by decide) (by kernel_rfl)
noncomputable def checkin_Read.tb (K : Nat) : Tb := [(27, ⟨[.str], [(.slice T49), .bool], card_Read.f K⟩), (34, ⟨[(.slice T49), (.int .u8)], [.str, .bool], checkin_single.f K⟩), (36, ⟨[.str, .str], [.str], strings_TrimPrefix.f K⟩), (35, ⟨[.str], [.str, .bool], escape_Read.f K⟩), (37, ⟨[.str], [(.int .i64), .bool], digit_ReadDec.f K⟩), (18, ⟨[(.slice T49)], [(.slice T42), .bool], checkin_ReadTags.f K⟩), (28, ⟨[(.slice T49), (.int .u8)], [(.slice .str), (.int .i64)], card_One.f K⟩), (9, ⟨[T27], [.str], checkin_Print.f K⟩)]
noncomputable def checkin_Read.its : Itb := [(38, ⟨[(.slice T49), (.int .u8)], (.prod (.int .i64) (.prod (.slice .str) .unit)), card_Of.L⟩)]
noncomputable def checkin_Read.code : Code := (Try.f10.body).getD .skip
noncomputable def checkin_Read.nm : Nat → NormSpec := lookN [(16, ⟨[(0, (.data .str)), (2, .raw), (3, (.data .bool)), (4, (.data (.slice T49))), (6, .raw)], [(2, [(.data .str), (.data .str), (.data (.int .i64)), .raw, .raw, .raw, (.data .str)]), (6, [(.data .str), (.data .str), (.data (.int .i64)), (.vec T56), .raw, (.data (.slice T42)), (.data .str)])], []⟩)]
noncomputable def checkin_Read.pre : Nat → Option NormSpec := lookP []
noncomputable def checkin_Read.E (K : Nat) : Env := ⟨lookR tys, bty, fullCall checkin_Read.its (checkin_Read.tb K) bids⟩
noncomputable def checkin_Read.ret (K : Nat) : St → Option (resT [T27, .bool]).den := retA (checkin_Read.E K) [T27, .bool] [(.cell 2 27), (.tmp 3)]
noncomputable def checkin_Read.C (K : Nat) : CEnv (resT [T27, .bool]).den := ⟨checkin_Read.E K, 135, K, checkin_Read.nm, checkin_Read.ret K, [], fun _ => false, checkin_Read.pre, lookG []⟩
noncomputable def checkin_Read.f (K : Nat) (x : (prodT [.str]).den) : Option (resT [T27, .bool]).den := exec checkin_Read.code (checkin_Read.C K) (checkin_Read.ret K) (init [.str] x)
noncomputable def checkin_Read.m16 (t0 : (List UInt8)) (r3 : Bool) (r4 : (List D49)) (bA2_0 : (List UInt8)) (bA2_1 : (List UInt8)) (bA2_2 : Int) (bA2_6 : (List UInt8)) (by6_0 : (List UInt8)) (by6_1 : (List UInt8)) (by6_2 : Int) (by6_3 : (List D56)) (by6_5 : (List D42)) (by6_6 : (List UInt8)) : St := mkSt [(0, (.d .str (t0 : (List UInt8)))), (2, (.ptr 2 0)), (3, (.d .bool (r3 : Bool))), (4, (.d (.slice T49) (r4 : (List D49)))), (6, (.ptr 6 0))] [(2, (.box [(.d .str (bA2_0 : (List UInt8))), (.d .str (bA2_1 : (List UInt8))), (.d (.int .i64) (bA2_2 : Int)), .nils, .nils, .nils, (.d .str (bA2_6 : (List UInt8)))])), (6, (.box [(.d .str (by6_0 : (List UInt8))), (.d .str (by6_1 : (List UInt8))), (.d (.int .i64) (by6_2 : Int)), (.vs 10603 0 T56 (by6_3 : List D56)), .nils, (.d (.slice T42) (by6_5 : (List D42))), (.d .str (by6_6 : (List UInt8)))])), (10603, (.vec T56 0))]
noncomputable def checkin_Read.r16 (K : Nat)  (l : List D49) : St → Option (D27 × Bool × Unit) := rangeAt [.r, .r, .r, .r, .r, .r, .r, .r, .r, .r, .r, .r, .r, .l, .r, .b] checkin_Read.code (checkin_Read.C K) (checkin_Read.ret K) [] (.prod (.int .i64) (.prod (.slice .str) .unit)) l
noncomputable def checkin_Read.i16 (K : Nat)  (l : List D49) (t0 : (List UInt8)) (r3 : Bool) (r4 : (List D49)) (bA2_0 : (List UInt8)) (bA2_1 : (List UInt8)) (bA2_2 : Int) (bA2_6 : (List UInt8)) (by6_0 : (List UInt8)) (by6_1 : (List UInt8)) (by6_2 : Int) (by6_3 : (List D56)) (by6_5 : (List D42)) (by6_6 : (List UInt8)) : Option (D27 × Bool × Unit) := checkin_Read.r16 K l (checkin_Read.m16 t0 r3 r4 bA2_0 bA2_1 bA2_2 bA2_6 by6_0 by6_1 by6_2 by6_3 by6_5 by6_6)
theorem checkin_Read.eq (K : Nat) (t0 : (List UInt8)) : checkin_Read.f K (t0, ()) =
 (((card_Read.f K (t0, ())).bind fun v_1 =>
 (bif (!v_1.2.1) then
 (some (([], ([], (0, (([] : (List D56)), (([] : (List (List UInt8))), (([] : (List D42)), ([], ()))))))), false, ()))
 else
 ((checkin_single.f K (v_1.1, (67 : Int), ())).bind fun v_2 =>
 ((checkin_single.f K (v_1.1, (68 : Int), ())).bind fun v_3 =>
 ((checkin_single.f K (v_1.1, (85 : Int), ())).bind fun v_4 =>
 ((strings_TrimPrefix.f K (v_2.1, ([46] : List UInt8), ())).bind fun v_5 =>
 ((escape_Read.f K (v_5, ())).bind fun v_6 =>
 ((digit_ReadDec.f K (v_3.1, ())).bind fun v_7 =>
 ((checkin_ReadTags.f K (v_1.1, ())).bind fun v_8 =>
 (bif (!v_2.2.1) then
 (some (([], ([], (0, (([] : (List D56)), (([] : (List (List UInt8))), (([] : (List D42)), ([], ()))))))), false, ()))
 else
 (bif (!v_3.2.1) then
 (some (([], ([], (0, (([] : (List D56)), (([] : (List (List UInt8))), (([] : (List D42)), ([], ()))))))), false, ()))
 else
 (bif (!v_4.2.1) then
 (some (([], ([], (0, (([] : (List D56)), (([] : (List (List UInt8))), (([] : (List D42)), ([], ()))))))), false, ()))
 else
 (bif (!v_6.2.1) then
 (some (([], ([], (0, (([] : (List D56)), (([] : (List (List UInt8))), (([] : (List D42)), ([], ()))))))), false, ()))
 else
 (bif (!v_7.2.1) then
 (some (([], ([], (0, (([] : (List D56)), (([] : (List (List UInt8))), (([] : (List D42)), ([], ()))))))), false, ()))
 else
 (bif (!v_8.2.1) then
 (some (([], ([], (0, (([] : (List D56)), (([] : (List (List UInt8))), (([] : (List D42)), ([], ()))))))), false, ()))
 else
 ((checkin_single.f K (v_1.1, (66 : Int), ())).bind fun v_9 =>
 ((card_Of.L (v_1.1, (70 : Int), ())).bind fun v_10 =>
 (checkin_Read.i16 K v_10 t0 false v_1.1 [] [] 0 [] v_9.1 v_6.1 v_7.1 ([] : (List D56)) v_8.1 v_4.1)))))))))))))))))) : Option (D27 × Bool × Unit)) := by kernel_rfl
theorem checkin_Read.i16_nil (K : Nat)  (t0 : (List UInt8)) (r3 : Bool) (r4 : (List D49)) (bA2_0 : (List UInt8)) (bA2_1 : (List UInt8)) (bA2_2 : Int) (bA2_6 : (List UInt8)) (by6_0 : (List UInt8)) (by6_1 : (List UInt8)) (by6_2 : Int) (by6_3 : (List D56)) (by6_5 : (List D42)) (by6_6 : (List UInt8)) : checkin_Read.i16 K [] t0 r3 r4 bA2_0 bA2_1 bA2_2 bA2_6 by6_0 by6_1 by6_2 by6_3 by6_5 by6_6 =
 (((card_One.f K (r4, (80 : Int), ())).bind fun v_1 =>
 ((checkin_Print.f K ((by6_0, (by6_1, (by6_2, (by6_3, (v_1.1, (by6_5, (by6_6, ()))))))), ())).bind fun v_2 =>
 (bif (!(decide (v_2 = t0))) then
 (some (([], ([], (0, (([] : (List D56)), (([] : (List (List UInt8))), (([] : (List D42)), ([], ()))))))), false, ()))
 else
 (some ((by6_0, (by6_1, (by6_2, (by6_3, (v_1.1, (by6_5, (by6_6, ()))))))), true, ()))))) : Option (D27 × Bool × Unit)) := by kernel_rfl
theorem checkin_Read.i16_cons (K : Nat)  (x16 : D49) (l : List D49) (t0 : (List UInt8)) (r3 : Bool) (r4 : (List D49)) (bA2_0 : (List UInt8)) (bA2_1 : (List UInt8)) (bA2_2 : Int) (bA2_6 : (List UInt8)) (by6_0 : (List UInt8)) (by6_1 : (List UInt8)) (by6_2 : Int) (by6_3 : (List D56)) (by6_5 : (List D42)) (by6_6 : (List UInt8)) : checkin_Read.i16 K (x16 :: l) t0 r3 r4 bA2_0 bA2_1 bA2_2 bA2_6 by6_0 by6_1 by6_2 by6_3 by6_5 by6_6 =
 ((bif (decide ((List.length x16.2.1 : Int) = (2 : Int))) then
 (chks [(decide ((1 : Int) < (List.length x16.2.1 : Int)))]
 (chks [(decide ((0 : Int) < (List.length x16.2.1 : Int)))]
 (chks [(growOk (List.length by6_3) (List.length ([((List.getD x16.2.1 (Int.toNat (0 : Int)) (DTy.dflt .str)), ((List.getD x16.2.1 (Int.toNat (1 : Int)) (DTy.dflt .str)), ()))] : List D56)) 32)]
 (checkin_Read.i16 K l t0 r3 r4 bA2_0 bA2_1 bA2_2 bA2_6 by6_0 by6_1 by6_2 (by6_3 ++ ([((List.getD x16.2.1 (Int.toNat (0 : Int)) (DTy.dflt .str)), ((List.getD x16.2.1 (Int.toNat (1 : Int)) (DTy.dflt .str)), ()))] : List D56)) by6_5 by6_6))))
 else
 (bif (decide ((List.length x16.2.1 : Int) = (1 : Int))) then
 (chks [(decide ((0 : Int) < (List.length x16.2.1 : Int)))]
 (chks [(growOk (List.length by6_3) (List.length ([((List.getD x16.2.1 (Int.toNat (0 : Int)) (DTy.dflt .str)), ([], ()))] : List D56)) 32)]
 (checkin_Read.i16 K l t0 r3 r4 bA2_0 bA2_1 bA2_2 bA2_6 by6_0 by6_1 by6_2 (by6_3 ++ ([((List.getD x16.2.1 (Int.toNat (0 : Int)) (DTy.dflt .str)), ([], ()))] : List D56)) by6_5 by6_6)))
 else
 (chks [(growOk (List.length by6_3) (List.length ([([], ([], ()))] : List D56)) 32)]
 (checkin_Read.i16 K l t0 r3 r4 bA2_0 bA2_1 bA2_2 bA2_6 by6_0 by6_1 by6_2 (by6_3 ++ ([([], ([], ()))] : List D56)) by6_5 by6_6)))) : Option (D27 × Bool × Unit)) := by kernel_rfl
theorem checkin_Read.tbOk (K : Nat) : TbOk Try.prog (checkin_Read.tb K) := by
 intro e he
 simp only [checkin_Read.tb, List.mem_cons, List.not_mem_nil, or_false] at he
 rcases he with rfl | rfl | rfl | rfl | rfl | rfl | rfl | rfl
 · exact ⟨card_Read.ok K, enters_of Try.func27 (by kernel_rfl) rfl⟩
 · exact ⟨checkin_single.ok K, enters_of Try.func34 (by kernel_rfl) rfl⟩
 · exact ⟨strings_TrimPrefix.ok K, enters_of Try.func36 (by kernel_rfl) rfl⟩
 · exact ⟨escape_Read.ok K, enters_of Try.func35 (by kernel_rfl) rfl⟩
 · exact ⟨digit_ReadDec.ok K, enters_of Try.func37 (by kernel_rfl) rfl⟩
 · exact ⟨checkin_ReadTags.ok K, enters_of Try.func18 (by kernel_rfl) rfl⟩
 · exact ⟨card_One.ok K, enters_of Try.func28 (by kernel_rfl) rfl⟩
 · exact ⟨checkin_Print.ok K, enters_of Try.func9 (by kernel_rfl) rfl⟩
theorem checkin_Read.itsOk : ItbOk Try.prog checkin_Read.its := by
 intro e he
 simp only [checkin_Read.its, List.mem_cons, List.not_mem_nil, or_false] at he
 rcases he with rfl
 · exact ⟨card_Of.itc, enters_of Try.func38 (by kernel_rfl) rfl⟩
theorem checkin_Read.ok (K : Nat) : PureC Try.prog 10 ⟨[.str], [T27, .bool], checkin_Read.f K⟩ :=
 fn_sound (itOk _ _) (E := checkin_Read.E K) (full_ok tys_ok checkin_Read.itsOk (checkin_Read.tbOk K) par_ok bld_ok bty_ok) mixed Try.func10 (c := checkin_Read.code) (by kernel_rfl) (by kernel_rfl) (by decide) (by kernel_rfl)
noncomputable def ammoniteref10_RightCheckin.tb (K : Nat) : Tb := [(58, ⟨[.str], [.bool], ammoniteref1_Is.f K⟩), (59, ⟨[.str], [.bool], ammoniteref10_Word.f K⟩), (60, ⟨[(.slice T42), .bool], [.bool], ammoniteref10_rightOps.f K⟩)]
noncomputable def ammoniteref10_RightCheckin.its : Itb := []
noncomputable def ammoniteref10_RightCheckin.code : Code := (Try.f25.body).getD .skip
noncomputable def ammoniteref10_RightCheckin.nm : Nat → NormSpec := lookN [(4, ⟨[(1, .raw), (53, (.data (.slice T56))), (54, (.data (.int .i64))), (55, (.data (.int .i64)))], [(1, [(.data .str), (.data .str), (.data (.int .i64)), (.data (.slice T56)), (.data (.slice .str)), (.data (.slice T42)), (.data .str)])], []⟩), (10, ⟨[(1, .raw), (103, (.data (.slice .str))), (104, (.data (.int .i64))), (105, (.data (.int .i64)))], [(1, [(.data .str), (.data .str), (.data (.int .i64)), (.data (.slice T56)), (.data (.slice .str)), (.data (.slice T42)), (.data .str)])], []⟩), (15, ⟨[(1, .raw), (6, (.data .str)), (103, (.data (.slice .str))), (104, (.data (.int .i64))), (105, (.data (.int .i64))), (116, (.data (.slice .str))), (117, (.data (.int .i64))), (118, (.data (.int .i64)))], [(1, [(.data .str), (.data .str), (.data (.int .i64)), (.data (.slice T56)), (.data (.slice .str)), (.data (.slice T42)), (.data .str)])], []⟩)]
noncomputable def ammoniteref10_RightCheckin.pre : Nat → Option NormSpec := lookP []
noncomputable def ammoniteref10_RightCheckin.E (K : Nat) : Env := ⟨lookR tys, bty, fullCall ammoniteref10_RightCheckin.its (ammoniteref10_RightCheckin.tb K) bids⟩
noncomputable def ammoniteref10_RightCheckin.ret (K : Nat) : St → Option (resT [.bool]).den := retA (ammoniteref10_RightCheckin.E K) [.bool] [(.tmp 2)]
noncomputable def ammoniteref10_RightCheckin.C (K : Nat) : CEnv (resT [.bool]).den := ⟨ammoniteref10_RightCheckin.E K, 130, K, ammoniteref10_RightCheckin.nm, ammoniteref10_RightCheckin.ret K, [], fun _ => false, ammoniteref10_RightCheckin.pre, lookG []⟩
noncomputable def ammoniteref10_RightCheckin.f (K : Nat) (x : (prodT [T27]).den) : Option (resT [.bool]).den := exec ammoniteref10_RightCheckin.code (ammoniteref10_RightCheckin.C K) (ammoniteref10_RightCheckin.ret K) (init [T27] x)
noncomputable def ammoniteref10_RightCheckin.m4 (t53 : (List D56)) (t54 : Int) (t55 : Int) (bo1_0 : (List UInt8)) (bo1_1 : (List UInt8)) (bo1_2 : Int) (bo1_3 : (List D56)) (bo1_4 : (List (List UInt8))) (bo1_5 : (List D42)) (bo1_6 : (List UInt8)) : St := mkSt [(1, (.ptr 1 0)), (53, (.d (.slice T56) (t53 : (List D56)))), (54, (.d (.int .i64) (t54 : Int))), (55, (.d (.int .i64) (t55 : Int)))] [(1, (.box [(.d .str (bo1_0 : (List UInt8))), (.d .str (bo1_1 : (List UInt8))), (.d (.int .i64) (bo1_2 : Int)), (.d (.slice T56) (bo1_3 : (List D56))), (.d (.slice .str) (bo1_4 : (List (List UInt8)))), (.d (.slice T42) (bo1_5 : (List D42))), (.d .str (bo1_6 : (List UInt8)))]))]
noncomputable def ammoniteref10_RightCheckin.r4 (K : Nat)  (n : Nat) : St → Option Bool := loopAt [.r, .r, .l, .r, .b] ammoniteref10_RightCheckin.code (ammoniteref10_RightCheckin.C K) (ammoniteref10_RightCheckin.ret K) [] n
noncomputable def ammoniteref10_RightCheckin.l4 (K : Nat)  (n : Nat) (t53 : (List D56)) (t54 : Int) (t55 : Int) (bo1_0 : (List UInt8)) (bo1_1 : (List UInt8)) (bo1_2 : Int) (bo1_3 : (List D56)) (bo1_4 : (List (List UInt8))) (bo1_5 : (List D42)) (bo1_6 : (List UInt8)) : Option Bool := ammoniteref10_RightCheckin.r4 K n (ammoniteref10_RightCheckin.m4 t53 t54 t55 bo1_0 bo1_1 bo1_2 bo1_3 bo1_4 bo1_5 bo1_6)
noncomputable def ammoniteref10_RightCheckin.m10 (t103 : (List (List UInt8))) (t104 : Int) (t105 : Int) (bo1_0 : (List UInt8)) (bo1_1 : (List UInt8)) (bo1_2 : Int) (bo1_3 : (List D56)) (bo1_4 : (List (List UInt8))) (bo1_5 : (List D42)) (bo1_6 : (List UInt8)) : St := mkSt [(1, (.ptr 1 0)), (103, (.d (.slice .str) (t103 : (List (List UInt8))))), (104, (.d (.int .i64) (t104 : Int))), (105, (.d (.int .i64) (t105 : Int)))] [(1, (.box [(.d .str (bo1_0 : (List UInt8))), (.d .str (bo1_1 : (List UInt8))), (.d (.int .i64) (bo1_2 : Int)), (.d (.slice T56) (bo1_3 : (List D56))), (.d (.slice .str) (bo1_4 : (List (List UInt8)))), (.d (.slice T42) (bo1_5 : (List D42))), (.d .str (bo1_6 : (List UInt8)))]))]
noncomputable def ammoniteref10_RightCheckin.r10 (K : Nat)  (n : Nat) : St → Option Bool := loopAt [.r, .r, .r, .l, .r, .b] ammoniteref10_RightCheckin.code (ammoniteref10_RightCheckin.C K) (ammoniteref10_RightCheckin.ret K) [] n
noncomputable def ammoniteref10_RightCheckin.l10 (K : Nat)  (n : Nat) (t103 : (List (List UInt8))) (t104 : Int) (t105 : Int) (bo1_0 : (List UInt8)) (bo1_1 : (List UInt8)) (bo1_2 : Int) (bo1_3 : (List D56)) (bo1_4 : (List (List UInt8))) (bo1_5 : (List D42)) (bo1_6 : (List UInt8)) : Option Bool := ammoniteref10_RightCheckin.r10 K n (ammoniteref10_RightCheckin.m10 t103 t104 t105 bo1_0 bo1_1 bo1_2 bo1_3 bo1_4 bo1_5 bo1_6)
noncomputable def ammoniteref10_RightCheckin.m15 (y6 : (List UInt8)) (t103 : (List (List UInt8))) (t104 : Int) (t105 : Int) (t116 : (List (List UInt8))) (t117 : Int) (t118 : Int) (bo1_0 : (List UInt8)) (bo1_1 : (List UInt8)) (bo1_2 : Int) (bo1_3 : (List D56)) (bo1_4 : (List (List UInt8))) (bo1_5 : (List D42)) (bo1_6 : (List UInt8)) : St := mkSt [(1, (.ptr 1 0)), (6, (.d .str (y6 : (List UInt8)))), (103, (.d (.slice .str) (t103 : (List (List UInt8))))), (104, (.d (.int .i64) (t104 : Int))), (105, (.d (.int .i64) (t105 : Int))), (116, (.d (.slice .str) (t116 : (List (List UInt8))))), (117, (.d (.int .i64) (t117 : Int))), (118, (.d (.int .i64) (t118 : Int)))] [(1, (.box [(.d .str (bo1_0 : (List UInt8))), (.d .str (bo1_1 : (List UInt8))), (.d (.int .i64) (bo1_2 : Int)), (.d (.slice T56) (bo1_3 : (List D56))), (.d (.slice .str) (bo1_4 : (List (List UInt8)))), (.d (.slice T42) (bo1_5 : (List D42))), (.d .str (bo1_6 : (List UInt8)))]))]
noncomputable def ammoniteref10_RightCheckin.r15 (K : Nat) (ρ10 : St → Option Bool) (n : Nat) : St → Option Bool := loopAt [.r, .r, .r, .l, .r, .b, .o, .r, .r, .l, .b, .r, .r, .r, .b] ammoniteref10_RightCheckin.code (ammoniteref10_RightCheckin.C K) (ammoniteref10_RightCheckin.ret K) [ρ10] n
noncomputable def ammoniteref10_RightCheckin.l15 (K : Nat) (ρ10 : St → Option Bool) (n : Nat) (y6 : (List UInt8)) (t103 : (List (List UInt8))) (t104 : Int) (t105 : Int) (t116 : (List (List UInt8))) (t117 : Int) (t118 : Int) (bo1_0 : (List UInt8)) (bo1_1 : (List UInt8)) (bo1_2 : Int) (bo1_3 : (List D56)) (bo1_4 : (List (List UInt8))) (bo1_5 : (List D42)) (bo1_6 : (List UInt8)) : Option Bool := ammoniteref10_RightCheckin.r15 K ρ10 n (ammoniteref10_RightCheckin.m15 y6 t103 t104 t105 t116 t117 t118 bo1_0 bo1_1 bo1_2 bo1_3 bo1_4 bo1_5 bo1_6)
theorem ammoniteref10_RightCheckin.eq (K : Nat) (t0 : D27) : ammoniteref10_RightCheckin.f K (t0, ()) =
 ((bif (!(decide (t0.1 = ([] : List UInt8)))) then
 ((ammoniteref1_Is.f K (t0.1, ())).bind fun v_1 =>
 (bif (!v_1) then
 (some false)
 else
 (bif (decide ((40 : Int) < (List.length t0.2.1 : Int))) then
 (some false)
 else
 (bif (decide (t0.2.2.1 < (0 : Int))) then
 (some false)
 else
 (bif (decide ((1073741824 : Int) < t0.2.2.1)) then
 (some false)
 else
 (bif (decide ((12 : Int) < (List.length t0.2.2.2.1 : Int))) then
 (some false)
 else
 (bif (decide ((3 : Int) < (List.length t0.2.2.2.2.1 : Int))) then
 (some false)
 else
 ((ammoniteref10_Word.f K (t0.2.2.2.2.2.2.1, ())).bind fun v_2 =>
 (bif (!v_2) then
 (some false)
 else
 (ammoniteref10_RightCheckin.l4 K K t0.2.2.2.1 (List.length t0.2.2.2.1 : Int) (0 : Int) t0.1 t0.2.1 t0.2.2.1 t0.2.2.2.1 t0.2.2.2.2.1 t0.2.2.2.2.2.1 t0.2.2.2.2.2.2.1))))))))))
 else
 (bif (decide ((40 : Int) < (List.length t0.2.1 : Int))) then
 (some false)
 else
 (bif (decide (t0.2.2.1 < (0 : Int))) then
 (some false)
 else
 (bif (decide ((1073741824 : Int) < t0.2.2.1)) then
 (some false)
 else
 (bif (decide ((12 : Int) < (List.length t0.2.2.2.1 : Int))) then
 (some false)
 else
 (bif (decide ((3 : Int) < (List.length t0.2.2.2.2.1 : Int))) then
 (some false)
 else
 ((ammoniteref10_Word.f K (t0.2.2.2.2.2.2.1, ())).bind fun v_3 =>
 (bif (!v_3) then
 (some false)
 else
 (ammoniteref10_RightCheckin.l4 K K t0.2.2.2.1 (List.length t0.2.2.2.1 : Int) (0 : Int) t0.1 t0.2.1 t0.2.2.1 t0.2.2.2.1 t0.2.2.2.2.1 t0.2.2.2.2.2.1 t0.2.2.2.2.2.2.1))))))))) : Option Bool) := by kernel_rfl
theorem ammoniteref10_RightCheckin.l4_succ (K : Nat)  (n : Nat) (t53 : (List D56)) (t54 : Int) (t55 : Int) (bo1_0 : (List UInt8)) (bo1_1 : (List UInt8)) (bo1_2 : Int) (bo1_3 : (List D56)) (bo1_4 : (List (List UInt8))) (bo1_5 : (List D42)) (bo1_6 : (List UInt8)) : ammoniteref10_RightCheckin.l4 K (n + 1) t53 t54 t55 bo1_0 bo1_1 bo1_2 bo1_3 bo1_4 bo1_5 bo1_6 =
 ((bif (decide (t55 < t54)) then
 (chks [(decide ((0 : Int) ≤ t55)), (decide (t55 < (List.length t53 : Int)))]
 ((ammoniteref10_Word.f K ((List.getD t53 (Int.toNat t55) (DTy.dflt T56)).1, ())).bind fun v_1 =>
 (bif (!v_1) then
 (some false)
 else
 (bif (decide ((List.getD t53 (Int.toNat t55) (DTy.dflt T56)).2.1 = ([] : List UInt8))) then
 (bif (decide (bo1_0 = ([] : List UInt8))) then
 (some false)
 else
 (bif (!(decide ((List.getD t53 (Int.toNat t55) (DTy.dflt T56)).2.1 = ([] : List UInt8)))) then
 ((ammoniteref1_Is.f K ((List.getD t53 (Int.toNat t55) (DTy.dflt T56)).2.1, ())).bind fun v_2 =>
 (bif (!v_2) then
 (some false)
 else
 (bif (decide ((0 : Int) < t55)) then
 (chks [(decide ((0 : Int) ≤ (IntKind.wrap .i64 (t55 - (1 : Int))))), (decide ((IntKind.wrap .i64 (t55 - (1 : Int))) < (List.length bo1_3 : Int)))]
 (bif (!(Op.bytesLess (List.getD bo1_3 (Int.toNat (IntKind.wrap .i64 (t55 - (1 : Int)))) (DTy.dflt T56)).1 (List.getD t53 (Int.toNat t55) (DTy.dflt T56)).1)) then
 (some false)
 else
 (ammoniteref10_RightCheckin.l4 K n t53 t54 (IntKind.wrap .i64 (t55 + (1 : Int))) bo1_0 bo1_1 bo1_2 bo1_3 bo1_4 bo1_5 bo1_6)))
 else
 (ammoniteref10_RightCheckin.l4 K n t53 t54 (IntKind.wrap .i64 (t55 + (1 : Int))) bo1_0 bo1_1 bo1_2 bo1_3 bo1_4 bo1_5 bo1_6))))
 else
 (bif (decide ((0 : Int) < t55)) then
 (chks [(decide ((0 : Int) ≤ (IntKind.wrap .i64 (t55 - (1 : Int))))), (decide ((IntKind.wrap .i64 (t55 - (1 : Int))) < (List.length bo1_3 : Int)))]
 (bif (!(Op.bytesLess (List.getD bo1_3 (Int.toNat (IntKind.wrap .i64 (t55 - (1 : Int)))) (DTy.dflt T56)).1 (List.getD t53 (Int.toNat t55) (DTy.dflt T56)).1)) then
 (some false)
 else
 (ammoniteref10_RightCheckin.l4 K n t53 t54 (IntKind.wrap .i64 (t55 + (1 : Int))) bo1_0 bo1_1 bo1_2 bo1_3 bo1_4 bo1_5 bo1_6)))
 else
 (ammoniteref10_RightCheckin.l4 K n t53 t54 (IntKind.wrap .i64 (t55 + (1 : Int))) bo1_0 bo1_1 bo1_2 bo1_3 bo1_4 bo1_5 bo1_6))))
 else
 (bif (!(decide ((List.getD t53 (Int.toNat t55) (DTy.dflt T56)).2.1 = ([] : List UInt8)))) then
 ((ammoniteref1_Is.f K ((List.getD t53 (Int.toNat t55) (DTy.dflt T56)).2.1, ())).bind fun v_3 =>
 (bif (!v_3) then
 (some false)
 else
 (bif (decide ((0 : Int) < t55)) then
 (chks [(decide ((0 : Int) ≤ (IntKind.wrap .i64 (t55 - (1 : Int))))), (decide ((IntKind.wrap .i64 (t55 - (1 : Int))) < (List.length bo1_3 : Int)))]
 (bif (!(Op.bytesLess (List.getD bo1_3 (Int.toNat (IntKind.wrap .i64 (t55 - (1 : Int)))) (DTy.dflt T56)).1 (List.getD t53 (Int.toNat t55) (DTy.dflt T56)).1)) then
 (some false)
 else
 (ammoniteref10_RightCheckin.l4 K n t53 t54 (IntKind.wrap .i64 (t55 + (1 : Int))) bo1_0 bo1_1 bo1_2 bo1_3 bo1_4 bo1_5 bo1_6)))
 else
 (ammoniteref10_RightCheckin.l4 K n t53 t54 (IntKind.wrap .i64 (t55 + (1 : Int))) bo1_0 bo1_1 bo1_2 bo1_3 bo1_4 bo1_5 bo1_6))))
 else
 (bif (decide ((0 : Int) < t55)) then
 (chks [(decide ((0 : Int) ≤ (IntKind.wrap .i64 (t55 - (1 : Int))))), (decide ((IntKind.wrap .i64 (t55 - (1 : Int))) < (List.length bo1_3 : Int)))]
 (bif (!(Op.bytesLess (List.getD bo1_3 (Int.toNat (IntKind.wrap .i64 (t55 - (1 : Int)))) (DTy.dflt T56)).1 (List.getD t53 (Int.toNat t55) (DTy.dflt T56)).1)) then
 (some false)
 else
 (ammoniteref10_RightCheckin.l4 K n t53 t54 (IntKind.wrap .i64 (t55 + (1 : Int))) bo1_0 bo1_1 bo1_2 bo1_3 bo1_4 bo1_5 bo1_6)))
 else
 (ammoniteref10_RightCheckin.l4 K n t53 t54 (IntKind.wrap .i64 (t55 + (1 : Int))) bo1_0 bo1_1 bo1_2 bo1_3 bo1_4 bo1_5 bo1_6)))))))
 else
 (ammoniteref10_RightCheckin.l10 K K bo1_4 (List.length bo1_4 : Int) (0 : Int) bo1_0 bo1_1 bo1_2 bo1_3 bo1_4 bo1_5 bo1_6)) : Option Bool) := by kernel_rfl
theorem ammoniteref10_RightCheckin.l10_succ (K : Nat)  (n : Nat) (t103 : (List (List UInt8))) (t104 : Int) (t105 : Int) (bo1_0 : (List UInt8)) (bo1_1 : (List UInt8)) (bo1_2 : Int) (bo1_3 : (List D56)) (bo1_4 : (List (List UInt8))) (bo1_5 : (List D42)) (bo1_6 : (List UInt8)) : ammoniteref10_RightCheckin.l10 K (n + 1) t103 t104 t105 bo1_0 bo1_1 bo1_2 bo1_3 bo1_4 bo1_5 bo1_6 =
 ((bif (decide (t105 < t104)) then
 (chks [(decide ((0 : Int) ≤ t105)), (decide (t105 < (List.length t103 : Int)))]
 ((ammoniteref1_Is.f K ((List.getD t103 (Int.toNat t105) (DTy.dflt .str)), ())).bind fun v_1 =>
 (bif (!v_1) then
 (some false)
 else
 (chks [(decide ((0 : Int) ≤ t105)), (decide (t105 ≤ (List.length bo1_4 : Int)))]
 (ammoniteref10_RightCheckin.l15 K (ammoniteref10_RightCheckin.r10 K n) K (List.getD t103 (Int.toNat t105) (DTy.dflt .str)) t103 t104 t105 (cutL bo1_4 none (some t105)) (List.length (cutL bo1_4 none (some t105)) : Int) (0 : Int) bo1_0 bo1_1 bo1_2 bo1_3 bo1_4 bo1_5 bo1_6)))))
 else
 ((ammoniteref10_rightOps.f K (bo1_5, true, ())).bind fun v_2 =>
 (some v_2))) : Option Bool) := by kernel_rfl
theorem ammoniteref10_RightCheckin.l15_succ (K : Nat) (ρ10 : St → Option Bool) (n : Nat) (y6 : (List UInt8)) (t103 : (List (List UInt8))) (t104 : Int) (t105 : Int) (t116 : (List (List UInt8))) (t117 : Int) (t118 : Int) (bo1_0 : (List UInt8)) (bo1_1 : (List UInt8)) (bo1_2 : Int) (bo1_3 : (List D56)) (bo1_4 : (List (List UInt8))) (bo1_5 : (List D42)) (bo1_6 : (List UInt8)) : ammoniteref10_RightCheckin.l15 K ρ10 (n + 1) y6 t103 t104 t105 t116 t117 t118 bo1_0 bo1_1 bo1_2 bo1_3 bo1_4 bo1_5 bo1_6 =
 ((bif (decide (t118 < t117)) then
 (chks [(decide ((0 : Int) ≤ t118)), (decide (t118 < (List.length t116 : Int)))]
 (bif (decide (y6 = (List.getD t116 (Int.toNat t118) (DTy.dflt .str)))) then
 (some false)
 else
 (ammoniteref10_RightCheckin.l15 K ρ10 n y6 t103 t104 t105 t116 t117 (IntKind.wrap .i64 (t118 + (1 : Int))) bo1_0 bo1_1 bo1_2 bo1_3 bo1_4 bo1_5 bo1_6)))
 else
 (ρ10 (ammoniteref10_RightCheckin.m10 t103 t104 (IntKind.wrap .i64 (t105 + (1 : Int))) bo1_0 bo1_1 bo1_2 bo1_3 bo1_4 bo1_5 bo1_6))) : Option Bool) := by kernel_rfl
theorem ammoniteref10_RightCheckin.tbOk (K : Nat) : TbOk Try.prog (ammoniteref10_RightCheckin.tb K) := by
 intro e he
 simp only [ammoniteref10_RightCheckin.tb, List.mem_cons, List.not_mem_nil, or_false] at he
 rcases he with rfl | rfl | rfl
 · exact ⟨ammoniteref1_Is.ok K, enters_of Try.func58 (by kernel_rfl) rfl⟩
 · exact ⟨ammoniteref10_Word.ok K, enters_of Try.func59 (by kernel_rfl) rfl⟩
 · exact ⟨ammoniteref10_rightOps.ok K, enters_of Try.func60 (by kernel_rfl) rfl⟩
theorem ammoniteref10_RightCheckin.itsOk : ItbOk Try.prog ammoniteref10_RightCheckin.its := by
 intro e he
 simp only [ammoniteref10_RightCheckin.its, List.mem_cons, List.not_mem_nil, or_false] at he
theorem ammoniteref10_RightCheckin.ok (K : Nat) : PureC Try.prog 25 ⟨[T27], [.bool], ammoniteref10_RightCheckin.f K⟩ :=
 fn_sound (itOk _ _) (E := ammoniteref10_RightCheckin.E K) (full_ok tys_ok ammoniteref10_RightCheckin.itsOk (ammoniteref10_RightCheckin.tbOk K) par_ok bld_ok bty_ok) mixed Try.func25 (c := ammoniteref10_RightCheckin.code) (by kernel_rfl) (by kernel_rfl) (by decide) (by kernel_rfl)
noncomputable def ammoniteref10_Checkin.tb (K : Nat) : Tb := [(17, ⟨[.str], [.str], ammoniteref10_Escape.f K⟩), (41, ⟨[(.int .i64)], [.str], ammoniteref1_Dec.f K⟩), (42, ⟨[(.slice T42)], [(.slice T49)], ammoniteref10_ops.f K⟩), (40, ⟨[(.slice T49)], [.str], ammoniteref10_Print.f K⟩)]
noncomputable def ammoniteref10_Checkin.its : Itb := []
noncomputable def ammoniteref10_Checkin.code : Code := (Try.f12.body).getD .skip
noncomputable def ammoniteref10_Checkin.nm : Nat → NormSpec := lookN [(6, ⟨[(1, .raw), (3, (.vec T49)), (32, (.data (.slice T56))), (33, (.data (.int .i64))), (34, (.data (.int .i64)))], [(1, [(.data .str), (.data .str), (.data (.int .i64)), (.data (.slice T56)), (.data (.slice .str)), (.data (.slice T42)), (.data .str)])], []⟩)]
noncomputable def ammoniteref10_Checkin.pre : Nat → Option NormSpec := lookP [(4, ⟨[(1, .raw), (3, (.vec T49))], [(1, [(.data .str), (.data .str), (.data (.int .i64)), (.data (.slice T56)), (.data (.slice .str)), (.data (.slice T42)), (.data .str)])], []⟩), (11, ⟨[(1, .raw), (3, (.vec T49)), (6, (.vec .str)), (32, (.data (.slice T56))), (33, (.data (.int .i64))), (34, (.data (.int .i64)))], [(1, [(.data .str), (.data .str), (.data (.int .i64)), (.data (.slice T56)), (.data (.slice .str)), (.data (.slice T42)), (.data .str)])], []⟩)]
noncomputable def ammoniteref10_Checkin.E (K : Nat) : Env := ⟨lookR tys, bty, fullCall ammoniteref10_Checkin.its (ammoniteref10_Checkin.tb K) bids⟩
noncomputable def ammoniteref10_Checkin.ret (K : Nat) : St → Option (resT [.str]).den := retA (ammoniteref10_Checkin.E K) [.str] [(.tmp 2)]
noncomputable def ammoniteref10_Checkin.C (K : Nat) : CEnv (resT [.str]).den := ⟨ammoniteref10_Checkin.E K, 78, K, ammoniteref10_Checkin.nm, ammoniteref10_Checkin.ret K, [], fun _ => false, ammoniteref10_Checkin.pre, lookG [(4, 0), (11, 1)]⟩
noncomputable def ammoniteref10_Checkin.f (K : Nat) (x : (prodT [T27]).den) : Option (resT [.str]).den := exec ammoniteref10_Checkin.code (ammoniteref10_Checkin.C K) (ammoniteref10_Checkin.ret K) (init [T27] x)
noncomputable def ammoniteref10_Checkin.m6 (l3 : (List D49)) (t32 : (List D56)) (t33 : Int) (t34 : Int) (bc1_0 : (List UInt8)) (bc1_1 : (List UInt8)) (bc1_2 : Int) (bc1_3 : (List D56)) (bc1_4 : (List (List UInt8))) (bc1_5 : (List D42)) (bc1_6 : (List UInt8)) : St := mkSt [(1, (.ptr 1 0)), (3, (.vs 3 0 T49 (l3 : List D49))), (32, (.d (.slice T56) (t32 : (List D56)))), (33, (.d (.int .i64) (t33 : Int))), (34, (.d (.int .i64) (t34 : Int)))] [(3, (.vec T49 0)), (1, (.box [(.d .str (bc1_0 : (List UInt8))), (.d .str (bc1_1 : (List UInt8))), (.d (.int .i64) (bc1_2 : Int)), (.d (.slice T56) (bc1_3 : (List D56))), (.d (.slice .str) (bc1_4 : (List (List UInt8)))), (.d (.slice T42) (bc1_5 : (List D42))), (.d .str (bc1_6 : (List UInt8)))]))]
noncomputable def ammoniteref10_Checkin.r6 (K : Nat)  (n : Nat) : St → Option (List UInt8) := loopAt [.r, .r, .r, .r, .l, .r, .b] ammoniteref10_Checkin.code (ammoniteref10_Checkin.C K) (ammoniteref10_Checkin.ret K) [] n
noncomputable def ammoniteref10_Checkin.l6 (K : Nat)  (n : Nat) (l3 : (List D49)) (t32 : (List D56)) (t33 : Int) (t34 : Int) (bc1_0 : (List UInt8)) (bc1_1 : (List UInt8)) (bc1_2 : Int) (bc1_3 : (List D56)) (bc1_4 : (List (List UInt8))) (bc1_5 : (List D42)) (bc1_6 : (List UInt8)) : Option (List UInt8) := ammoniteref10_Checkin.r6 K n (ammoniteref10_Checkin.m6 l3 t32 t33 t34 bc1_0 bc1_1 bc1_2 bc1_3 bc1_4 bc1_5 bc1_6)
noncomputable def ammoniteref10_Checkin.mj4 (l3 : (List D49)) (bc1_0 : (List UInt8)) (bc1_1 : (List UInt8)) (bc1_2 : Int) (bc1_3 : (List D56)) (bc1_4 : (List (List UInt8))) (bc1_5 : (List D42)) (bc1_6 : (List UInt8)) : St := mkSt [(1, (.ptr 1 0)), (3, (.vs 3 0 T49 (l3 : List D49)))] [(3, (.vec T49 0)), (1, (.box [(.d .str (bc1_0 : (List UInt8))), (.d .str (bc1_1 : (List UInt8))), (.d (.int .i64) (bc1_2 : Int)), (.d (.slice T56) (bc1_3 : (List D56))), (.d (.slice .str) (bc1_4 : (List (List UInt8)))), (.d (.slice T42) (bc1_5 : (List D42))), (.d .str (bc1_6 : (List UInt8)))]))]
noncomputable def ammoniteref10_Checkin.j4 (K : Nat)  (l3 : (List D49)) (bc1_0 : (List UInt8)) (bc1_1 : (List UInt8)) (bc1_2 : Int) (bc1_3 : (List D56)) (bc1_4 : (List (List UInt8))) (bc1_5 : (List D42)) (bc1_6 : (List UInt8)) : Option (List UInt8) := pointAt [.r, .r, .r, .l] ammoniteref10_Checkin.code (ammoniteref10_Checkin.C K) (ammoniteref10_Checkin.ret K) [] (ammoniteref10_Checkin.mj4 l3 bc1_0 bc1_1 bc1_2 bc1_3 bc1_4 bc1_5 bc1_6)
noncomputable def ammoniteref10_Checkin.mj11 (l3 : (List D49)) (a6 : (List (List UInt8))) (t32 : (List D56)) (t33 : Int) (t34 : Int) (bc1_0 : (List UInt8)) (bc1_1 : (List UInt8)) (bc1_2 : Int) (bc1_3 : (List D56)) (bc1_4 : (List (List UInt8))) (bc1_5 : (List D42)) (bc1_6 : (List UInt8)) : St := mkSt [(1, (.ptr 1 0)), (3, (.vs 3 0 T49 (l3 : List D49))), (6, (.vs 6 0 .str (a6 : List (List UInt8)))), (32, (.d (.slice T56) (t32 : (List D56)))), (33, (.d (.int .i64) (t33 : Int))), (34, (.d (.int .i64) (t34 : Int)))] [(3, (.vec T49 0)), (6, (.vec .str 0)), (1, (.box [(.d .str (bc1_0 : (List UInt8))), (.d .str (bc1_1 : (List UInt8))), (.d (.int .i64) (bc1_2 : Int)), (.d (.slice T56) (bc1_3 : (List D56))), (.d (.slice .str) (bc1_4 : (List (List UInt8)))), (.d (.slice T42) (bc1_5 : (List D42))), (.d .str (bc1_6 : (List UInt8)))]))]
noncomputable def ammoniteref10_Checkin.j11 (K : Nat) (ρ6 : St → Option (List UInt8)) (l3 : (List D49)) (a6 : (List (List UInt8))) (t32 : (List D56)) (t33 : Int) (t34 : Int) (bc1_0 : (List UInt8)) (bc1_1 : (List UInt8)) (bc1_2 : Int) (bc1_3 : (List D56)) (bc1_4 : (List (List UInt8))) (bc1_5 : (List D42)) (bc1_6 : (List UInt8)) : Option (List UInt8) := pointAt [.r, .r, .r, .r, .l, .r, .b, .o, .r, .r, .l, .b, .r, .r, .r] ammoniteref10_Checkin.code (ammoniteref10_Checkin.C K) (ammoniteref10_Checkin.ret K) [ρ6] (ammoniteref10_Checkin.mj11 l3 a6 t32 t33 t34 bc1_0 bc1_1 bc1_2 bc1_3 bc1_4 bc1_5 bc1_6)
theorem ammoniteref10_Checkin.eq (K : Nat) (c0 : D27) : ammoniteref10_Checkin.f K (c0, ()) =
 ((bif (!(decide (c0.1 = ([] : List UInt8)))) then
 (chks [(growOk 0 (List.length ([((66 : Int), (([c0.1] : List (List UInt8)), ()))] : List D49)) 32)]
 (ammoniteref10_Checkin.j4 K ([((66 : Int), (([c0.1] : List (List UInt8)), ()))] : List D49) c0.1 c0.2.1 c0.2.2.1 c0.2.2.2.1 c0.2.2.2.2.1 c0.2.2.2.2.2.1 c0.2.2.2.2.2.2.1))
 else
 (ammoniteref10_Checkin.j4 K ([] : (List D49)) c0.1 c0.2.1 c0.2.2.1 c0.2.2.2.1 c0.2.2.2.2.1 c0.2.2.2.2.2.1 c0.2.2.2.2.2.2.1)) : Option (List UInt8)) := by kernel_rfl
theorem ammoniteref10_Checkin.l6_succ (K : Nat)  (n : Nat) (l3 : (List D49)) (t32 : (List D56)) (t33 : Int) (t34 : Int) (bc1_0 : (List UInt8)) (bc1_1 : (List UInt8)) (bc1_2 : Int) (bc1_3 : (List D56)) (bc1_4 : (List (List UInt8))) (bc1_5 : (List D42)) (bc1_6 : (List UInt8)) : ammoniteref10_Checkin.l6 K (n + 1) l3 t32 t33 t34 bc1_0 bc1_1 bc1_2 bc1_3 bc1_4 bc1_5 bc1_6 =
 ((bif (decide (t34 < t33)) then
 (chks [(decide ((0 : Int) ≤ t34)), (decide (t34 < (List.length t32 : Int)))]
 (bif (!(decide ((List.getD t32 (Int.toNat t34) (DTy.dflt T56)).2.1 = ([] : List UInt8)))) then
 (chks [(growOk (List.length ([(List.getD t32 (Int.toNat t34) (DTy.dflt T56)).1] : List (List UInt8))) (List.length ([(List.getD t32 (Int.toNat t34) (DTy.dflt T56)).2.1] : List (List UInt8))) 16)]
 (ammoniteref10_Checkin.j11 K (ammoniteref10_Checkin.r6 K n) l3 (([(List.getD t32 (Int.toNat t34) (DTy.dflt T56)).1] : List (List UInt8)) ++ ([(List.getD t32 (Int.toNat t34) (DTy.dflt T56)).2.1] : List (List UInt8))) t32 t33 t34 bc1_0 bc1_1 bc1_2 bc1_3 bc1_4 bc1_5 bc1_6))
 else
 (ammoniteref10_Checkin.j11 K (ammoniteref10_Checkin.r6 K n) l3 ([(List.getD t32 (Int.toNat t34) (DTy.dflt T56)).1] : List (List UInt8)) t32 t33 t34 bc1_0 bc1_1 bc1_2 bc1_3 bc1_4 bc1_5 bc1_6)))
 else
 (bif (decide ((0 : Int) < (List.length bc1_4 : Int))) then
 (chks [(growOk (List.length l3) (List.length ([((80 : Int), (bc1_4, ()))] : List D49)) 32)]
 ((ammoniteref10_ops.f K (bc1_5, ())).bind fun v_1 =>
 (chks [(growOk (List.length (l3 ++ ([((80 : Int), (bc1_4, ()))] : List D49))) (List.length v_1) 32)]
 (chks [(growOk (List.length ((l3 ++ ([((80 : Int), (bc1_4, ()))] : List D49)) ++ v_1)) (List.length ([((85 : Int), (([bc1_6] : List (List UInt8)), ()))] : List D49)) 32)]
 ((ammoniteref10_Print.f K ((((l3 ++ ([((80 : Int), (bc1_4, ()))] : List D49)) ++ v_1) ++ ([((85 : Int), (([bc1_6] : List (List UInt8)), ()))] : List D49)), ())).bind fun v_2 =>
 (some v_2))))))
 else
 ((ammoniteref10_ops.f K (bc1_5, ())).bind fun v_3 =>
 (chks [(growOk (List.length l3) (List.length v_3) 32)]
 (chks [(growOk (List.length (l3 ++ v_3)) (List.length ([((85 : Int), (([bc1_6] : List (List UInt8)), ()))] : List D49)) 32)]
 ((ammoniteref10_Print.f K (((l3 ++ v_3) ++ ([((85 : Int), (([bc1_6] : List (List UInt8)), ()))] : List D49)), ())).bind fun v_4 =>
 (some v_4))))))) : Option (List UInt8)) := by kernel_rfl
theorem ammoniteref10_Checkin.j4_eq {K : Nat} (hK : 1000 ≤ K)  (l3 : (List D49)) (bc1_0 : (List UInt8)) (bc1_1 : (List UInt8)) (bc1_2 : Int) (bc1_3 : (List D56)) (bc1_4 : (List (List UInt8))) (bc1_5 : (List D42)) (bc1_6 : (List UInt8)) : ammoniteref10_Checkin.j4 K l3 bc1_0 bc1_1 bc1_2 bc1_3 bc1_4 bc1_5 bc1_6 =
 (((ammoniteref10_Escape.f K (bc1_1, ())).bind fun v_1 =>
 (chks [(catOk ([46] : List UInt8) v_1)]
 ((ammoniteref1_Dec.f K (bc1_2, ())).bind fun v_2 =>
 (chks [(growOk (List.length l3) (List.length ([((67 : Int), (([(([46] : List UInt8) ++ v_1)] : List (List UInt8)), ())), ((68 : Int), (([v_2] : List (List UInt8)), ()))] : List D49)) 32)]
 (ammoniteref10_Checkin.l6 K K (l3 ++ ([((67 : Int), (([(([46] : List UInt8) ++ v_1)] : List (List UInt8)), ())), ((68 : Int), (([v_2] : List (List UInt8)), ()))] : List D49)) bc1_3 (List.length bc1_3 : Int) (0 : Int) bc1_0 bc1_1 bc1_2 bc1_3 bc1_4 bc1_5 bc1_6))))) : Option (List UInt8)) := by
 obtain ⟨K, rfl⟩ : ∃ m, K = m + 1 := ⟨K - 1, by omega⟩
 kernel_rfl
theorem ammoniteref10_Checkin.j11_eq {K : Nat} (hK : 1000 ≤ K) (ρ6 : St → Option (List UInt8)) (l3 : (List D49)) (a6 : (List (List UInt8))) (t32 : (List D56)) (t33 : Int) (t34 : Int) (bc1_0 : (List UInt8)) (bc1_1 : (List UInt8)) (bc1_2 : Int) (bc1_3 : (List D56)) (bc1_4 : (List (List UInt8))) (bc1_5 : (List D42)) (bc1_6 : (List UInt8)) : ammoniteref10_Checkin.j11 K ρ6 l3 a6 t32 t33 t34 bc1_0 bc1_1 bc1_2 bc1_3 bc1_4 bc1_5 bc1_6 =
 ((chks [(growOk (List.length l3) (List.length ([((70 : Int), (a6, ()))] : List D49)) 32)]
 (ρ6 (ammoniteref10_Checkin.m6 (l3 ++ ([((70 : Int), (a6, ()))] : List D49)) t32 t33 (IntKind.wrap .i64 (t34 + (1 : Int))) bc1_0 bc1_1 bc1_2 bc1_3 bc1_4 bc1_5 bc1_6))) : Option (List UInt8)) := by
 obtain ⟨K, rfl⟩ : ∃ m, K = m + 2 := ⟨K - 2, by omega⟩
 kernel_rfl
theorem ammoniteref10_Checkin.tbOk (K : Nat) : TbOk Try.prog (ammoniteref10_Checkin.tb K) := by
 intro e he
 simp only [ammoniteref10_Checkin.tb, List.mem_cons, List.not_mem_nil, or_false] at he
 rcases he with rfl | rfl | rfl | rfl
 · exact ⟨ammoniteref10_Escape.ok K, enters_of Try.func17 (by kernel_rfl) rfl⟩
 · exact ⟨ammoniteref1_Dec.ok K, enters_of Try.func41 (by kernel_rfl) rfl⟩
 · exact ⟨ammoniteref10_ops.ok K, enters_of Try.func42 (by kernel_rfl) rfl⟩
 · exact ⟨ammoniteref10_Print.ok K, enters_of Try.func40 (by kernel_rfl) rfl⟩
theorem ammoniteref10_Checkin.itsOk : ItbOk Try.prog ammoniteref10_Checkin.its := by
 intro e he
 simp only [ammoniteref10_Checkin.its, List.mem_cons, List.not_mem_nil, or_false] at he
theorem ammoniteref10_Checkin.ok (K : Nat) : PureC Try.prog 12 ⟨[T27], [.str], ammoniteref10_Checkin.f K⟩ :=
 fn_sound (itOk _ _) (E := ammoniteref10_Checkin.E K) (full_ok tys_ok ammoniteref10_Checkin.itsOk (ammoniteref10_Checkin.tbOk K) par_ok bld_ok bty_ok) mixed Try.func12 (c := ammoniteref10_Checkin.code) (by kernel_rfl) (by kernel_rfl) (by decide) (by kernel_rfl)
noncomputable def ammoniteref10_ReadCheckin.tb (K : Nat) : Tb := [(39, ⟨[.str], [(.slice T49), .bool], ammoniteref10_Cards.f K⟩), (47, ⟨[(.slice T49)], [(.slice T42), .bool], ammoniteref10_readOps.f K⟩), (25, ⟨[T27], [.bool], ammoniteref10_RightCheckin.f K⟩), (12, ⟨[T27], [.str], ammoniteref10_Checkin.f K⟩), (48, ⟨[.str], [.str, .bool], ammoniteref10_Unescape.f K⟩), (49, ⟨[.str], [(.int .i64)], ammoniteref1_ReadDec.f K⟩)]
noncomputable def ammoniteref10_ReadCheckin.its : Itb := []
noncomputable def ammoniteref10_ReadCheckin.code : Code := (Try.f14.body).getD .skip
noncomputable def ammoniteref10_ReadCheckin.nm : Nat → NormSpec := lookN [(9, ⟨[(0, (.data .str)), (2, .raw), (6, .raw), (29, (.data (.slice T49))), (30, (.data (.int .i64))), (31, (.data (.int .i64)))], [(2, [(.data .str), (.data .str), (.data (.int .i64)), .raw, .raw, .raw, (.data .str)]), (6, [(.data .str), (.data .str), (.data (.int .i64)), (.vec T56), (.data (.slice .str)), (.data (.slice T42)), (.data .str)])], []⟩)]
noncomputable def ammoniteref10_ReadCheckin.pre : Nat → Option NormSpec := lookP [(15, ⟨[(0, (.data .str)), (2, .raw), (6, .raw), (8, .raw), (9, (.data (.int .i64))), (29, (.data (.slice T49))), (30, (.data (.int .i64))), (31, (.data (.int .i64)))], [(2, [(.data .str), (.data .str), (.data (.int .i64)), .raw, .raw, .raw, (.data .str)]), (6, [(.data .str), (.data .str), (.data (.int .i64)), (.vec T56), (.data (.slice .str)), (.data (.slice T42)), (.data .str)]), (8, [(.data (.int .u8)), (.data (.slice .str))])], []⟩), (20, ⟨[(0, (.data .str)), (2, .raw), (6, .raw), (8, .raw), (9, (.data (.int .i64))), (29, (.data (.slice T49))), (30, (.data (.int .i64))), (31, (.data (.int .i64)))], [(2, [(.data .str), (.data .str), (.data (.int .i64)), .raw, .raw, .raw, (.data .str)]), (6, [(.data .str), (.data .str), (.data (.int .i64)), (.vec T56), (.data (.slice .str)), (.data (.slice T42)), (.data .str)]), (8, [(.data (.int .u8)), (.data (.slice .str))])], []⟩), (22, ⟨[(0, (.data .str)), (2, .raw), (6, .raw), (8, .raw), (9, (.data (.int .i64))), (29, (.data (.slice T49))), (30, (.data (.int .i64))), (31, (.data (.int .i64)))], [(2, [(.data .str), (.data .str), (.data (.int .i64)), .raw, .raw, .raw, (.data .str)]), (6, [(.data .str), (.data .str), (.data (.int .i64)), (.vec T56), (.data (.slice .str)), (.data (.slice T42)), (.data .str)]), (8, [(.data (.int .u8)), (.data (.slice .str))])], []⟩), (24, ⟨[(0, (.data .str)), (2, .raw), (6, .raw), (8, .raw), (9, (.data (.int .i64))), (29, (.data (.slice T49))), (30, (.data (.int .i64))), (31, (.data (.int .i64)))], [(2, [(.data .str), (.data .str), (.data (.int .i64)), .raw, .raw, .raw, (.data .str)]), (6, [(.data .str), (.data .str), (.data (.int .i64)), (.vec T56), (.data (.slice .str)), (.data (.slice T42)), (.data .str)]), (8, [(.data (.int .u8)), (.data (.slice .str))])], []⟩), (26, ⟨[(0, (.data .str)), (2, .raw), (6, .raw), (8, .raw), (9, (.data (.int .i64))), (29, (.data (.slice T49))), (30, (.data (.int .i64))), (31, (.data (.int .i64)))], [(2, [(.data .str), (.data .str), (.data (.int .i64)), .raw, .raw, .raw, (.data .str)]), (6, [(.data .str), (.data .str), (.data (.int .i64)), (.vec T56), (.data (.slice .str)), (.data (.slice T42)), (.data .str)]), (8, [(.data (.int .u8)), (.data (.slice .str))])], []⟩)]
noncomputable def ammoniteref10_ReadCheckin.E (K : Nat) : Env := ⟨lookR tys, bty, fullCall ammoniteref10_ReadCheckin.its (ammoniteref10_ReadCheckin.tb K) bids⟩
noncomputable def ammoniteref10_ReadCheckin.ret (K : Nat) : St → Option (resT [T27, .bool]).den := retA (ammoniteref10_ReadCheckin.E K) [T27, .bool] [(.cell 2 27), (.tmp 3)]
noncomputable def ammoniteref10_ReadCheckin.C (K : Nat) : CEnv (resT [T27, .bool]).den := ⟨ammoniteref10_ReadCheckin.E K, 172, K, ammoniteref10_ReadCheckin.nm, ammoniteref10_ReadCheckin.ret K, [], fun _ => false, ammoniteref10_ReadCheckin.pre, lookG [(15, 0), (20, 1), (22, 2), (24, 3), (26, 4)]⟩
noncomputable def ammoniteref10_ReadCheckin.f (K : Nat) (x : (prodT [.str]).den) : Option (resT [T27, .bool]).den := exec ammoniteref10_ReadCheckin.code (ammoniteref10_ReadCheckin.C K) (ammoniteref10_ReadCheckin.ret K) (init [.str] x)
noncomputable def ammoniteref10_ReadCheckin.m9 (t0 : (List UInt8)) (t29 : (List D49)) (t30 : Int) (t31 : Int) (bA2_0 : (List UInt8)) (bA2_1 : (List UInt8)) (bA2_2 : Int) (bA2_6 : (List UInt8)) (by6_0 : (List UInt8)) (by6_1 : (List UInt8)) (by6_2 : Int) (by6_3 : (List D56)) (by6_4 : (List (List UInt8))) (by6_5 : (List D42)) (by6_6 : (List UInt8)) : St := mkSt [(0, (.d .str (t0 : (List UInt8)))), (2, (.ptr 2 0)), (6, (.ptr 6 0)), (29, (.d (.slice T49) (t29 : (List D49)))), (30, (.d (.int .i64) (t30 : Int))), (31, (.d (.int .i64) (t31 : Int)))] [(2, (.box [(.d .str (bA2_0 : (List UInt8))), (.d .str (bA2_1 : (List UInt8))), (.d (.int .i64) (bA2_2 : Int)), .nils, .nils, .nils, (.d .str (bA2_6 : (List UInt8)))])), (6, (.box [(.d .str (by6_0 : (List UInt8))), (.d .str (by6_1 : (List UInt8))), (.d (.int .i64) (by6_2 : Int)), (.vs 10603 0 T56 (by6_3 : List D56)), (.d (.slice .str) (by6_4 : (List (List UInt8)))), (.d (.slice T42) (by6_5 : (List D42))), (.d .str (by6_6 : (List UInt8)))])), (10603, (.vec T56 0))]
noncomputable def ammoniteref10_ReadCheckin.r9 (K : Nat)  (n : Nat) : St → Option (D27 × Bool × Unit) := loopAt [.r, .r, .r, .r, .r, .r, .l, .r, .b] ammoniteref10_ReadCheckin.code (ammoniteref10_ReadCheckin.C K) (ammoniteref10_ReadCheckin.ret K) [] n
noncomputable def ammoniteref10_ReadCheckin.l9 (K : Nat)  (n : Nat) (t0 : (List UInt8)) (t29 : (List D49)) (t30 : Int) (t31 : Int) (bA2_0 : (List UInt8)) (bA2_1 : (List UInt8)) (bA2_2 : Int) (bA2_6 : (List UInt8)) (by6_0 : (List UInt8)) (by6_1 : (List UInt8)) (by6_2 : Int) (by6_3 : (List D56)) (by6_4 : (List (List UInt8))) (by6_5 : (List D42)) (by6_6 : (List UInt8)) : Option (D27 × Bool × Unit) := ammoniteref10_ReadCheckin.r9 K n (ammoniteref10_ReadCheckin.m9 t0 t29 t30 t31 bA2_0 bA2_1 bA2_2 bA2_6 by6_0 by6_1 by6_2 by6_3 by6_4 by6_5 by6_6)
noncomputable def ammoniteref10_ReadCheckin.mj15 (t0 : (List UInt8)) (t9 : Int) (t29 : (List D49)) (t30 : Int) (t31 : Int) (bA2_0 : (List UInt8)) (bA2_1 : (List UInt8)) (bA2_2 : Int) (bA2_6 : (List UInt8)) (by6_0 : (List UInt8)) (by6_1 : (List UInt8)) (by6_2 : Int) (by6_3 : (List D56)) (by6_4 : (List (List UInt8))) (by6_5 : (List D42)) (by6_6 : (List UInt8)) (bt8_0 : Int) (bt8_1 : (List (List UInt8))) : St := mkSt [(0, (.d .str (t0 : (List UInt8)))), (2, (.ptr 2 0)), (6, (.ptr 6 0)), (8, (.ptr 8 0)), (9, (.d (.int .i64) (t9 : Int))), (29, (.d (.slice T49) (t29 : (List D49)))), (30, (.d (.int .i64) (t30 : Int))), (31, (.d (.int .i64) (t31 : Int)))] [(2, (.box [(.d .str (bA2_0 : (List UInt8))), (.d .str (bA2_1 : (List UInt8))), (.d (.int .i64) (bA2_2 : Int)), .nils, .nils, .nils, (.d .str (bA2_6 : (List UInt8)))])), (6, (.box [(.d .str (by6_0 : (List UInt8))), (.d .str (by6_1 : (List UInt8))), (.d (.int .i64) (by6_2 : Int)), (.vs 10603 0 T56 (by6_3 : List D56)), (.d (.slice .str) (by6_4 : (List (List UInt8)))), (.d (.slice T42) (by6_5 : (List D42))), (.d .str (by6_6 : (List UInt8)))])), (10603, (.vec T56 0)), (8, (.box [(.d (.int .u8) (bt8_0 : Int)), (.d (.slice .str) (bt8_1 : (List (List UInt8))))]))]
noncomputable def ammoniteref10_ReadCheckin.j15 (K : Nat) (ρ9 : St → Option (D27 × Bool × Unit)) (t0 : (List UInt8)) (t9 : Int) (t29 : (List D49)) (t30 : Int) (t31 : Int) (bA2_0 : (List UInt8)) (bA2_1 : (List UInt8)) (bA2_2 : Int) (bA2_6 : (List UInt8)) (by6_0 : (List UInt8)) (by6_1 : (List UInt8)) (by6_2 : Int) (by6_3 : (List D56)) (by6_4 : (List (List UInt8))) (by6_5 : (List D42)) (by6_6 : (List UInt8)) (bt8_0 : Int) (bt8_1 : (List (List UInt8))) : Option (D27 × Bool × Unit) := pointAt [.r, .r, .r, .r, .r, .r, .l, .r, .b, .o, .r, .r, .l, .b, .r, .r, .b, .r, .f, .l] ammoniteref10_ReadCheckin.code (ammoniteref10_ReadCheckin.C K) (ammoniteref10_ReadCheckin.ret K) [ρ9] (ammoniteref10_ReadCheckin.mj15 t0 t9 t29 t30 t31 bA2_0 bA2_1 bA2_2 bA2_6 by6_0 by6_1 by6_2 by6_3 by6_4 by6_5 by6_6 bt8_0 bt8_1)
noncomputable def ammoniteref10_ReadCheckin.mj20 (t0 : (List UInt8)) (t9 : Int) (t29 : (List D49)) (t30 : Int) (t31 : Int) (bA2_0 : (List UInt8)) (bA2_1 : (List UInt8)) (bA2_2 : Int) (bA2_6 : (List UInt8)) (by6_0 : (List UInt8)) (by6_1 : (List UInt8)) (by6_2 : Int) (by6_3 : (List D56)) (by6_4 : (List (List UInt8))) (by6_5 : (List D42)) (by6_6 : (List UInt8)) (bt8_0 : Int) (bt8_1 : (List (List UInt8))) : St := mkSt [(0, (.d .str (t0 : (List UInt8)))), (2, (.ptr 2 0)), (6, (.ptr 6 0)), (8, (.ptr 8 0)), (9, (.d (.int .i64) (t9 : Int))), (29, (.d (.slice T49) (t29 : (List D49)))), (30, (.d (.int .i64) (t30 : Int))), (31, (.d (.int .i64) (t31 : Int)))] [(2, (.box [(.d .str (bA2_0 : (List UInt8))), (.d .str (bA2_1 : (List UInt8))), (.d (.int .i64) (bA2_2 : Int)), .nils, .nils, .nils, (.d .str (bA2_6 : (List UInt8)))])), (6, (.box [(.d .str (by6_0 : (List UInt8))), (.d .str (by6_1 : (List UInt8))), (.d (.int .i64) (by6_2 : Int)), (.vs 10603 0 T56 (by6_3 : List D56)), (.d (.slice .str) (by6_4 : (List (List UInt8)))), (.d (.slice T42) (by6_5 : (List D42))), (.d .str (by6_6 : (List UInt8)))])), (10603, (.vec T56 0)), (8, (.box [(.d (.int .u8) (bt8_0 : Int)), (.d (.slice .str) (bt8_1 : (List (List UInt8))))]))]
noncomputable def ammoniteref10_ReadCheckin.j20 (K : Nat) (ρ9 : St → Option (D27 × Bool × Unit)) (t0 : (List UInt8)) (t9 : Int) (t29 : (List D49)) (t30 : Int) (t31 : Int) (bA2_0 : (List UInt8)) (bA2_1 : (List UInt8)) (bA2_2 : Int) (bA2_6 : (List UInt8)) (by6_0 : (List UInt8)) (by6_1 : (List UInt8)) (by6_2 : Int) (by6_3 : (List D56)) (by6_4 : (List (List UInt8))) (by6_5 : (List D42)) (by6_6 : (List UInt8)) (bt8_0 : Int) (bt8_1 : (List (List UInt8))) : Option (D27 × Bool × Unit) := pointAt [.r, .r, .r, .r, .r, .r, .l, .r, .b, .o, .r, .r, .l, .b, .r, .r, .b, .r, .f, .r, .f, .l] ammoniteref10_ReadCheckin.code (ammoniteref10_ReadCheckin.C K) (ammoniteref10_ReadCheckin.ret K) [ρ9] (ammoniteref10_ReadCheckin.mj20 t0 t9 t29 t30 t31 bA2_0 bA2_1 bA2_2 bA2_6 by6_0 by6_1 by6_2 by6_3 by6_4 by6_5 by6_6 bt8_0 bt8_1)
noncomputable def ammoniteref10_ReadCheckin.mj22 (t0 : (List UInt8)) (t9 : Int) (t29 : (List D49)) (t30 : Int) (t31 : Int) (bA2_0 : (List UInt8)) (bA2_1 : (List UInt8)) (bA2_2 : Int) (bA2_6 : (List UInt8)) (by6_0 : (List UInt8)) (by6_1 : (List UInt8)) (by6_2 : Int) (by6_3 : (List D56)) (by6_4 : (List (List UInt8))) (by6_5 : (List D42)) (by6_6 : (List UInt8)) (bt8_0 : Int) (bt8_1 : (List (List UInt8))) : St := mkSt [(0, (.d .str (t0 : (List UInt8)))), (2, (.ptr 2 0)), (6, (.ptr 6 0)), (8, (.ptr 8 0)), (9, (.d (.int .i64) (t9 : Int))), (29, (.d (.slice T49) (t29 : (List D49)))), (30, (.d (.int .i64) (t30 : Int))), (31, (.d (.int .i64) (t31 : Int)))] [(2, (.box [(.d .str (bA2_0 : (List UInt8))), (.d .str (bA2_1 : (List UInt8))), (.d (.int .i64) (bA2_2 : Int)), .nils, .nils, .nils, (.d .str (bA2_6 : (List UInt8)))])), (6, (.box [(.d .str (by6_0 : (List UInt8))), (.d .str (by6_1 : (List UInt8))), (.d (.int .i64) (by6_2 : Int)), (.vs 10603 0 T56 (by6_3 : List D56)), (.d (.slice .str) (by6_4 : (List (List UInt8)))), (.d (.slice T42) (by6_5 : (List D42))), (.d .str (by6_6 : (List UInt8)))])), (10603, (.vec T56 0)), (8, (.box [(.d (.int .u8) (bt8_0 : Int)), (.d (.slice .str) (bt8_1 : (List (List UInt8))))]))]
noncomputable def ammoniteref10_ReadCheckin.j22 (K : Nat) (ρ9 : St → Option (D27 × Bool × Unit)) (t0 : (List UInt8)) (t9 : Int) (t29 : (List D49)) (t30 : Int) (t31 : Int) (bA2_0 : (List UInt8)) (bA2_1 : (List UInt8)) (bA2_2 : Int) (bA2_6 : (List UInt8)) (by6_0 : (List UInt8)) (by6_1 : (List UInt8)) (by6_2 : Int) (by6_3 : (List D56)) (by6_4 : (List (List UInt8))) (by6_5 : (List D42)) (by6_6 : (List UInt8)) (bt8_0 : Int) (bt8_1 : (List (List UInt8))) : Option (D27 × Bool × Unit) := pointAt [.r, .r, .r, .r, .r, .r, .l, .r, .b, .o, .r, .r, .l, .b, .r, .r, .b, .r, .f, .r, .f, .r, .f, .l] ammoniteref10_ReadCheckin.code (ammoniteref10_ReadCheckin.C K) (ammoniteref10_ReadCheckin.ret K) [ρ9] (ammoniteref10_ReadCheckin.mj22 t0 t9 t29 t30 t31 bA2_0 bA2_1 bA2_2 bA2_6 by6_0 by6_1 by6_2 by6_3 by6_4 by6_5 by6_6 bt8_0 bt8_1)
noncomputable def ammoniteref10_ReadCheckin.mj24 (t0 : (List UInt8)) (t9 : Int) (t29 : (List D49)) (t30 : Int) (t31 : Int) (bA2_0 : (List UInt8)) (bA2_1 : (List UInt8)) (bA2_2 : Int) (bA2_6 : (List UInt8)) (by6_0 : (List UInt8)) (by6_1 : (List UInt8)) (by6_2 : Int) (by6_3 : (List D56)) (by6_4 : (List (List UInt8))) (by6_5 : (List D42)) (by6_6 : (List UInt8)) (bt8_0 : Int) (bt8_1 : (List (List UInt8))) : St := mkSt [(0, (.d .str (t0 : (List UInt8)))), (2, (.ptr 2 0)), (6, (.ptr 6 0)), (8, (.ptr 8 0)), (9, (.d (.int .i64) (t9 : Int))), (29, (.d (.slice T49) (t29 : (List D49)))), (30, (.d (.int .i64) (t30 : Int))), (31, (.d (.int .i64) (t31 : Int)))] [(2, (.box [(.d .str (bA2_0 : (List UInt8))), (.d .str (bA2_1 : (List UInt8))), (.d (.int .i64) (bA2_2 : Int)), .nils, .nils, .nils, (.d .str (bA2_6 : (List UInt8)))])), (6, (.box [(.d .str (by6_0 : (List UInt8))), (.d .str (by6_1 : (List UInt8))), (.d (.int .i64) (by6_2 : Int)), (.vs 10603 0 T56 (by6_3 : List D56)), (.d (.slice .str) (by6_4 : (List (List UInt8)))), (.d (.slice T42) (by6_5 : (List D42))), (.d .str (by6_6 : (List UInt8)))])), (10603, (.vec T56 0)), (8, (.box [(.d (.int .u8) (bt8_0 : Int)), (.d (.slice .str) (bt8_1 : (List (List UInt8))))]))]
noncomputable def ammoniteref10_ReadCheckin.j24 (K : Nat) (ρ9 : St → Option (D27 × Bool × Unit)) (t0 : (List UInt8)) (t9 : Int) (t29 : (List D49)) (t30 : Int) (t31 : Int) (bA2_0 : (List UInt8)) (bA2_1 : (List UInt8)) (bA2_2 : Int) (bA2_6 : (List UInt8)) (by6_0 : (List UInt8)) (by6_1 : (List UInt8)) (by6_2 : Int) (by6_3 : (List D56)) (by6_4 : (List (List UInt8))) (by6_5 : (List D42)) (by6_6 : (List UInt8)) (bt8_0 : Int) (bt8_1 : (List (List UInt8))) : Option (D27 × Bool × Unit) := pointAt [.r, .r, .r, .r, .r, .r, .l, .r, .b, .o, .r, .r, .l, .b, .r, .r, .b, .r, .f, .r, .f, .r, .f, .r, .f, .l] ammoniteref10_ReadCheckin.code (ammoniteref10_ReadCheckin.C K) (ammoniteref10_ReadCheckin.ret K) [ρ9] (ammoniteref10_ReadCheckin.mj24 t0 t9 t29 t30 t31 bA2_0 bA2_1 bA2_2 bA2_6 by6_0 by6_1 by6_2 by6_3 by6_4 by6_5 by6_6 bt8_0 bt8_1)
noncomputable def ammoniteref10_ReadCheckin.mj26 (t0 : (List UInt8)) (t9 : Int) (t29 : (List D49)) (t30 : Int) (t31 : Int) (bA2_0 : (List UInt8)) (bA2_1 : (List UInt8)) (bA2_2 : Int) (bA2_6 : (List UInt8)) (by6_0 : (List UInt8)) (by6_1 : (List UInt8)) (by6_2 : Int) (by6_3 : (List D56)) (by6_4 : (List (List UInt8))) (by6_5 : (List D42)) (by6_6 : (List UInt8)) (bt8_0 : Int) (bt8_1 : (List (List UInt8))) : St := mkSt [(0, (.d .str (t0 : (List UInt8)))), (2, (.ptr 2 0)), (6, (.ptr 6 0)), (8, (.ptr 8 0)), (9, (.d (.int .i64) (t9 : Int))), (29, (.d (.slice T49) (t29 : (List D49)))), (30, (.d (.int .i64) (t30 : Int))), (31, (.d (.int .i64) (t31 : Int)))] [(2, (.box [(.d .str (bA2_0 : (List UInt8))), (.d .str (bA2_1 : (List UInt8))), (.d (.int .i64) (bA2_2 : Int)), .nils, .nils, .nils, (.d .str (bA2_6 : (List UInt8)))])), (6, (.box [(.d .str (by6_0 : (List UInt8))), (.d .str (by6_1 : (List UInt8))), (.d (.int .i64) (by6_2 : Int)), (.vs 10603 0 T56 (by6_3 : List D56)), (.d (.slice .str) (by6_4 : (List (List UInt8)))), (.d (.slice T42) (by6_5 : (List D42))), (.d .str (by6_6 : (List UInt8)))])), (10603, (.vec T56 0)), (8, (.box [(.d (.int .u8) (bt8_0 : Int)), (.d (.slice .str) (bt8_1 : (List (List UInt8))))]))]
noncomputable def ammoniteref10_ReadCheckin.j26 (K : Nat) (ρ9 : St → Option (D27 × Bool × Unit)) (t0 : (List UInt8)) (t9 : Int) (t29 : (List D49)) (t30 : Int) (t31 : Int) (bA2_0 : (List UInt8)) (bA2_1 : (List UInt8)) (bA2_2 : Int) (bA2_6 : (List UInt8)) (by6_0 : (List UInt8)) (by6_1 : (List UInt8)) (by6_2 : Int) (by6_3 : (List D56)) (by6_4 : (List (List UInt8))) (by6_5 : (List D42)) (by6_6 : (List UInt8)) (bt8_0 : Int) (bt8_1 : (List (List UInt8))) : Option (D27 × Bool × Unit) := pointAt [.r, .r, .r, .r, .r, .r, .l, .r, .b, .o, .r, .r, .l, .b, .r, .r, .b, .r, .f, .r, .f, .r, .f, .r, .f, .r, .f, .l] ammoniteref10_ReadCheckin.code (ammoniteref10_ReadCheckin.C K) (ammoniteref10_ReadCheckin.ret K) [ρ9] (ammoniteref10_ReadCheckin.mj26 t0 t9 t29 t30 t31 bA2_0 bA2_1 bA2_2 bA2_6 by6_0 by6_1 by6_2 by6_3 by6_4 by6_5 by6_6 bt8_0 bt8_1)
theorem ammoniteref10_ReadCheckin.eq (K : Nat) (t0 : (List UInt8)) : ammoniteref10_ReadCheckin.f K (t0, ()) =
 (((ammoniteref10_Cards.f K (t0, ())).bind fun v_1 =>
 (bif (!v_1.2.1) then
 (some (([], ([], (0, (([] : (List D56)), (([] : (List (List UInt8))), (([] : (List D42)), ([], ()))))))), false, ()))
 else
 ((ammoniteref10_readOps.f K (v_1.1, ())).bind fun v_2 =>
 (bif (!v_2.2.1) then
 (some (([], ([], (0, (([] : (List D56)), (([] : (List (List UInt8))), (([] : (List D42)), ([], ()))))))), false, ()))
 else
 (ammoniteref10_ReadCheckin.l9 K K t0 v_1.1 (List.length v_1.1 : Int) (0 : Int) [] [] 0 [] [] [] 0 ([] : (List D56)) ([] : (List (List UInt8))) v_2.1 []))))) : Option (D27 × Bool × Unit)) := by kernel_rfl
theorem ammoniteref10_ReadCheckin.l9_succ (K : Nat)  (n : Nat) (t0 : (List UInt8)) (t29 : (List D49)) (t30 : Int) (t31 : Int) (bA2_0 : (List UInt8)) (bA2_1 : (List UInt8)) (bA2_2 : Int) (bA2_6 : (List UInt8)) (by6_0 : (List UInt8)) (by6_1 : (List UInt8)) (by6_2 : Int) (by6_3 : (List D56)) (by6_4 : (List (List UInt8))) (by6_5 : (List D42)) (by6_6 : (List UInt8)) : ammoniteref10_ReadCheckin.l9 K (n + 1) t0 t29 t30 t31 bA2_0 bA2_1 bA2_2 bA2_6 by6_0 by6_1 by6_2 by6_3 by6_4 by6_5 by6_6 =
 ((bif (decide (t31 < t30)) then
 (chks [(decide ((0 : Int) ≤ t31)), (decide (t31 < (List.length t29 : Int)))]
 (bif (decide ((List.getD t29 (Int.toNat t31) (DTy.dflt T49)).1 = (66 : Int))) then
 (bif (decide ((List.length (List.getD t29 (Int.toNat t31) (DTy.dflt T49)).2.1 : Int) = (1 : Int))) then
 (chks [(decide ((0 : Int) < (List.length (List.getD t29 (Int.toNat t31) (DTy.dflt T49)).2.1 : Int)))]
 (ammoniteref10_ReadCheckin.l9 K n t0 t29 t30 (IntKind.wrap .i64 (t31 + (1 : Int))) bA2_0 bA2_1 bA2_2 bA2_6 (List.getD (List.getD t29 (Int.toNat t31) (DTy.dflt T49)).2.1 (Int.toNat (0 : Int)) (DTy.dflt .str)) by6_1 by6_2 by6_3 by6_4 by6_5 by6_6))
 else
 (ammoniteref10_ReadCheckin.j15 K (ammoniteref10_ReadCheckin.r9 K n) t0 (List.length (List.getD t29 (Int.toNat t31) (DTy.dflt T49)).2.1 : Int) t29 t30 t31 bA2_0 bA2_1 bA2_2 bA2_6 by6_0 by6_1 by6_2 by6_3 by6_4 by6_5 by6_6 (List.getD t29 (Int.toNat t31) (DTy.dflt T49)).1 (List.getD t29 (Int.toNat t31) (DTy.dflt T49)).2.1))
 else
 (ammoniteref10_ReadCheckin.j15 K (ammoniteref10_ReadCheckin.r9 K n) t0 (List.length (List.getD t29 (Int.toNat t31) (DTy.dflt T49)).2.1 : Int) t29 t30 t31 bA2_0 bA2_1 bA2_2 bA2_6 by6_0 by6_1 by6_2 by6_3 by6_4 by6_5 by6_6 (List.getD t29 (Int.toNat t31) (DTy.dflt T49)).1 (List.getD t29 (Int.toNat t31) (DTy.dflt T49)).2.1)))
 else
 ((ammoniteref10_RightCheckin.f K ((by6_0, (by6_1, (by6_2, (by6_3, (by6_4, (by6_5, (by6_6, ()))))))), ())).bind fun v_1 =>
 (bif (!v_1) then
 (some (([], ([], (0, (([] : (List D56)), (([] : (List (List UInt8))), (([] : (List D42)), ([], ()))))))), false, ()))
 else
 ((ammoniteref10_Checkin.f K ((by6_0, (by6_1, (by6_2, (by6_3, (by6_4, (by6_5, (by6_6, ()))))))), ())).bind fun v_2 =>
 (bif (!(decide (v_2 = t0))) then
 (some (([], ([], (0, (([] : (List D56)), (([] : (List (List UInt8))), (([] : (List D42)), ([], ()))))))), false, ()))
 else
 (some ((by6_0, (by6_1, (by6_2, (by6_3, (by6_4, (by6_5, (by6_6, ()))))))), true, ()))))))) : Option (D27 × Bool × Unit)) := by kernel_rfl
theorem ammoniteref10_ReadCheckin.j15_eq {K : Nat} (hK : 1000 ≤ K) (ρ9 : St → Option (D27 × Bool × Unit)) (t0 : (List UInt8)) (t9 : Int) (t29 : (List D49)) (t30 : Int) (t31 : Int) (bA2_0 : (List UInt8)) (bA2_1 : (List UInt8)) (bA2_2 : Int) (bA2_6 : (List UInt8)) (by6_0 : (List UInt8)) (by6_1 : (List UInt8)) (by6_2 : Int) (by6_3 : (List D56)) (by6_4 : (List (List UInt8))) (by6_5 : (List D42)) (by6_6 : (List UInt8)) (bt8_0 : Int) (bt8_1 : (List (List UInt8))) : ammoniteref10_ReadCheckin.j15 K ρ9 t0 t9 t29 t30 t31 bA2_0 bA2_1 bA2_2 bA2_6 by6_0 by6_1 by6_2 by6_3 by6_4 by6_5 by6_6 bt8_0 bt8_1 =
 ((bif (decide (bt8_0 = (67 : Int))) then
 (bif (decide (t9 = (1 : Int))) then
 (chks [(decide ((0 : Int) < (List.length bt8_1 : Int)))]
 (chks [(decide ((0 : Int) < (List.length (List.getD bt8_1 (Int.toNat (0 : Int)) (DTy.dflt .str)) : Int)))]
 (bif (decide (((List.getD (List.getD bt8_1 (Int.toNat (0 : Int)) (DTy.dflt .str)) (Int.toNat (0 : Int)) 0).toNat : Int) = (46 : Int))) then
 (chks [(decide ((0 : Int) < (List.length bt8_1 : Int)))]
 (chks [(decide ((1 : Int) ≤ (List.length (List.getD bt8_1 (Int.toNat (0 : Int)) (DTy.dflt .str)) : Int)))]
 ((ammoniteref10_Unescape.f K ((cutL (List.getD bt8_1 (Int.toNat (0 : Int)) (DTy.dflt .str)) (some (1 : Int)) none), ())).bind fun v_1 =>
 (bif (!v_1.2.1) then
 (some (([], ([], (0, (([] : (List D56)), (([] : (List (List UInt8))), (([] : (List D42)), ([], ()))))))), false, ()))
 else
 (ρ9 (ammoniteref10_ReadCheckin.m9 t0 t29 t30 (IntKind.wrap .i64 (t31 + (1 : Int))) bA2_0 bA2_1 bA2_2 bA2_6 by6_0 v_1.1 by6_2 by6_3 by6_4 by6_5 by6_6))))))
 else
 (ammoniteref10_ReadCheckin.j20 K ρ9 t0 t9 t29 t30 t31 bA2_0 bA2_1 bA2_2 bA2_6 by6_0 by6_1 by6_2 by6_3 by6_4 by6_5 by6_6 bt8_0 bt8_1))))
 else
 (ammoniteref10_ReadCheckin.j20 K ρ9 t0 t9 t29 t30 t31 bA2_0 bA2_1 bA2_2 bA2_6 by6_0 by6_1 by6_2 by6_3 by6_4 by6_5 by6_6 bt8_0 bt8_1))
 else
 (ammoniteref10_ReadCheckin.j20 K ρ9 t0 t9 t29 t30 t31 bA2_0 bA2_1 bA2_2 bA2_6 by6_0 by6_1 by6_2 by6_3 by6_4 by6_5 by6_6 bt8_0 bt8_1)) : Option (D27 × Bool × Unit)) := by
 obtain ⟨K, rfl⟩ : ∃ m, K = m + 1 := ⟨K - 1, by omega⟩
 kernel_rfl
theorem ammoniteref10_ReadCheckin.j20_eq {K : Nat} (hK : 1000 ≤ K) (ρ9 : St → Option (D27 × Bool × Unit)) (t0 : (List UInt8)) (t9 : Int) (t29 : (List D49)) (t30 : Int) (t31 : Int) (bA2_0 : (List UInt8)) (bA2_1 : (List UInt8)) (bA2_2 : Int) (bA2_6 : (List UInt8)) (by6_0 : (List UInt8)) (by6_1 : (List UInt8)) (by6_2 : Int) (by6_3 : (List D56)) (by6_4 : (List (List UInt8))) (by6_5 : (List D42)) (by6_6 : (List UInt8)) (bt8_0 : Int) (bt8_1 : (List (List UInt8))) : ammoniteref10_ReadCheckin.j20 K ρ9 t0 t9 t29 t30 t31 bA2_0 bA2_1 bA2_2 bA2_6 by6_0 by6_1 by6_2 by6_3 by6_4 by6_5 by6_6 bt8_0 bt8_1 =
 ((bif (decide (bt8_0 = (68 : Int))) then
 (bif (decide (t9 = (1 : Int))) then
 (chks [(decide ((0 : Int) < (List.length bt8_1 : Int)))]
 ((ammoniteref1_ReadDec.f K ((List.getD bt8_1 (Int.toNat (0 : Int)) (DTy.dflt .str)), ())).bind fun v_1 =>
 (ρ9 (ammoniteref10_ReadCheckin.m9 t0 t29 t30 (IntKind.wrap .i64 (t31 + (1 : Int))) bA2_0 bA2_1 bA2_2 bA2_6 by6_0 by6_1 v_1 by6_3 by6_4 by6_5 by6_6))))
 else
 (ammoniteref10_ReadCheckin.j22 K ρ9 t0 t9 t29 t30 t31 bA2_0 bA2_1 bA2_2 bA2_6 by6_0 by6_1 by6_2 by6_3 by6_4 by6_5 by6_6 bt8_0 bt8_1))
 else
 (ammoniteref10_ReadCheckin.j22 K ρ9 t0 t9 t29 t30 t31 bA2_0 bA2_1 bA2_2 bA2_6 by6_0 by6_1 by6_2 by6_3 by6_4 by6_5 by6_6 bt8_0 bt8_1)) : Option (D27 × Bool × Unit)) := by
 obtain ⟨K, rfl⟩ : ∃ m, K = m + 2 := ⟨K - 2, by omega⟩
 kernel_rfl
theorem ammoniteref10_ReadCheckin.j22_eq {K : Nat} (hK : 1000 ≤ K) (ρ9 : St → Option (D27 × Bool × Unit)) (t0 : (List UInt8)) (t9 : Int) (t29 : (List D49)) (t30 : Int) (t31 : Int) (bA2_0 : (List UInt8)) (bA2_1 : (List UInt8)) (bA2_2 : Int) (bA2_6 : (List UInt8)) (by6_0 : (List UInt8)) (by6_1 : (List UInt8)) (by6_2 : Int) (by6_3 : (List D56)) (by6_4 : (List (List UInt8))) (by6_5 : (List D42)) (by6_6 : (List UInt8)) (bt8_0 : Int) (bt8_1 : (List (List UInt8))) : ammoniteref10_ReadCheckin.j22 K ρ9 t0 t9 t29 t30 t31 bA2_0 bA2_1 bA2_2 bA2_6 by6_0 by6_1 by6_2 by6_3 by6_4 by6_5 by6_6 bt8_0 bt8_1 =
 ((bif (decide (bt8_0 = (70 : Int))) then
 (bif (decide (t9 = (1 : Int))) then
 (chks [(decide ((0 : Int) < (List.length bt8_1 : Int)))]
 (chks [(growOk (List.length by6_3) (List.length ([((List.getD bt8_1 (Int.toNat (0 : Int)) (DTy.dflt .str)), ([], ()))] : List D56)) 32)]
 (ρ9 (ammoniteref10_ReadCheckin.m9 t0 t29 t30 (IntKind.wrap .i64 (t31 + (1 : Int))) bA2_0 bA2_1 bA2_2 bA2_6 by6_0 by6_1 by6_2 (by6_3 ++ ([((List.getD bt8_1 (Int.toNat (0 : Int)) (DTy.dflt .str)), ([], ()))] : List D56)) by6_4 by6_5 by6_6))))
 else
 (ammoniteref10_ReadCheckin.j24 K ρ9 t0 t9 t29 t30 t31 bA2_0 bA2_1 bA2_2 bA2_6 by6_0 by6_1 by6_2 by6_3 by6_4 by6_5 by6_6 bt8_0 bt8_1))
 else
 (ammoniteref10_ReadCheckin.j24 K ρ9 t0 t9 t29 t30 t31 bA2_0 bA2_1 bA2_2 bA2_6 by6_0 by6_1 by6_2 by6_3 by6_4 by6_5 by6_6 bt8_0 bt8_1)) : Option (D27 × Bool × Unit)) := by
 obtain ⟨K, rfl⟩ : ∃ m, K = m + 3 := ⟨K - 3, by omega⟩
 kernel_rfl
theorem ammoniteref10_ReadCheckin.j24_eq {K : Nat} (hK : 1000 ≤ K) (ρ9 : St → Option (D27 × Bool × Unit)) (t0 : (List UInt8)) (t9 : Int) (t29 : (List D49)) (t30 : Int) (t31 : Int) (bA2_0 : (List UInt8)) (bA2_1 : (List UInt8)) (bA2_2 : Int) (bA2_6 : (List UInt8)) (by6_0 : (List UInt8)) (by6_1 : (List UInt8)) (by6_2 : Int) (by6_3 : (List D56)) (by6_4 : (List (List UInt8))) (by6_5 : (List D42)) (by6_6 : (List UInt8)) (bt8_0 : Int) (bt8_1 : (List (List UInt8))) : ammoniteref10_ReadCheckin.j24 K ρ9 t0 t9 t29 t30 t31 bA2_0 bA2_1 bA2_2 bA2_6 by6_0 by6_1 by6_2 by6_3 by6_4 by6_5 by6_6 bt8_0 bt8_1 =
 ((bif (decide (bt8_0 = (70 : Int))) then
 (bif (decide (t9 = (2 : Int))) then
 (chks [(decide ((0 : Int) < (List.length bt8_1 : Int)))]
 (chks [(decide ((1 : Int) < (List.length bt8_1 : Int)))]
 (chks [(growOk (List.length by6_3) (List.length ([((List.getD bt8_1 (Int.toNat (0 : Int)) (DTy.dflt .str)), ((List.getD bt8_1 (Int.toNat (1 : Int)) (DTy.dflt .str)), ()))] : List D56)) 32)]
 (ρ9 (ammoniteref10_ReadCheckin.m9 t0 t29 t30 (IntKind.wrap .i64 (t31 + (1 : Int))) bA2_0 bA2_1 bA2_2 bA2_6 by6_0 by6_1 by6_2 (by6_3 ++ ([((List.getD bt8_1 (Int.toNat (0 : Int)) (DTy.dflt .str)), ((List.getD bt8_1 (Int.toNat (1 : Int)) (DTy.dflt .str)), ()))] : List D56)) by6_4 by6_5 by6_6)))))
 else
 (ammoniteref10_ReadCheckin.j26 K ρ9 t0 t9 t29 t30 t31 bA2_0 bA2_1 bA2_2 bA2_6 by6_0 by6_1 by6_2 by6_3 by6_4 by6_5 by6_6 bt8_0 bt8_1))
 else
 (ammoniteref10_ReadCheckin.j26 K ρ9 t0 t9 t29 t30 t31 bA2_0 bA2_1 bA2_2 bA2_6 by6_0 by6_1 by6_2 by6_3 by6_4 by6_5 by6_6 bt8_0 bt8_1)) : Option (D27 × Bool × Unit)) := by
 obtain ⟨K, rfl⟩ : ∃ m, K = m + 4 := ⟨K - 4, by omega⟩
 kernel_rfl
theorem ammoniteref10_ReadCheckin.j26_eq {K : Nat} (hK : 1000 ≤ K) (ρ9 : St → Option (D27 × Bool × Unit)) (t0 : (List UInt8)) (t9 : Int) (t29 : (List D49)) (t30 : Int) (t31 : Int) (bA2_0 : (List UInt8)) (bA2_1 : (List UInt8)) (bA2_2 : Int) (bA2_6 : (List UInt8)) (by6_0 : (List UInt8)) (by6_1 : (List UInt8)) (by6_2 : Int) (by6_3 : (List D56)) (by6_4 : (List (List UInt8))) (by6_5 : (List D42)) (by6_6 : (List UInt8)) (bt8_0 : Int) (bt8_1 : (List (List UInt8))) : ammoniteref10_ReadCheckin.j26 K ρ9 t0 t9 t29 t30 t31 bA2_0 bA2_1 bA2_2 bA2_6 by6_0 by6_1 by6_2 by6_3 by6_4 by6_5 by6_6 bt8_0 bt8_1 =
 ((bif (decide (bt8_0 = (80 : Int))) then
 (ρ9 (ammoniteref10_ReadCheckin.m9 t0 t29 t30 (IntKind.wrap .i64 (t31 + (1 : Int))) bA2_0 bA2_1 bA2_2 bA2_6 by6_0 by6_1 by6_2 by6_3 bt8_1 by6_5 by6_6))
 else
 (bif (decide (bt8_0 = (84 : Int))) then
 (ρ9 (ammoniteref10_ReadCheckin.m9 t0 t29 t30 (IntKind.wrap .i64 (t31 + (1 : Int))) bA2_0 bA2_1 bA2_2 bA2_6 by6_0 by6_1 by6_2 by6_3 by6_4 by6_5 by6_6))
 else
 (bif (decide (bt8_0 = (85 : Int))) then
 (bif (decide (t9 = (1 : Int))) then
 (chks [(decide ((0 : Int) < (List.length bt8_1 : Int)))]
 (ρ9 (ammoniteref10_ReadCheckin.m9 t0 t29 t30 (IntKind.wrap .i64 (t31 + (1 : Int))) bA2_0 bA2_1 bA2_2 bA2_6 by6_0 by6_1 by6_2 by6_3 by6_4 by6_5 (List.getD bt8_1 (Int.toNat (0 : Int)) (DTy.dflt .str)))))
 else
 (some (([], ([], (0, (([] : (List D56)), (([] : (List (List UInt8))), (([] : (List D42)), ([], ()))))))), false, ())))
 else
 (some (([], ([], (0, (([] : (List D56)), (([] : (List (List UInt8))), (([] : (List D42)), ([], ()))))))), false, ()))))) : Option (D27 × Bool × Unit)) := by
 obtain ⟨K, rfl⟩ : ∃ m, K = m + 5 := ⟨K - 5, by omega⟩
 kernel_rfl
theorem ammoniteref10_ReadCheckin.tbOk (K : Nat) : TbOk Try.prog (ammoniteref10_ReadCheckin.tb K) := by
 intro e he
 simp only [ammoniteref10_ReadCheckin.tb, List.mem_cons, List.not_mem_nil, or_false] at he
 rcases he with rfl | rfl | rfl | rfl | rfl | rfl
 · exact ⟨ammoniteref10_Cards.ok K, enters_of Try.func39 (by kernel_rfl) rfl⟩
 · exact ⟨ammoniteref10_readOps.ok K, enters_of Try.func47 (by kernel_rfl) rfl⟩
 · exact ⟨ammoniteref10_RightCheckin.ok K, enters_of Try.func25 (by kernel_rfl) rfl⟩
 · exact ⟨ammoniteref10_Checkin.ok K, enters_of Try.func12 (by kernel_rfl) rfl⟩
 · exact ⟨ammoniteref10_Unescape.ok K, enters_of Try.func48 (by kernel_rfl) rfl⟩
 · exact ⟨ammoniteref1_ReadDec.ok K, enters_of Try.func49 (by kernel_rfl) rfl⟩
theorem ammoniteref10_ReadCheckin.itsOk : ItbOk Try.prog ammoniteref10_ReadCheckin.its := by
 intro e he
 simp only [ammoniteref10_ReadCheckin.its, List.mem_cons, List.not_mem_nil, or_false] at he
theorem ammoniteref10_ReadCheckin.ok (K : Nat) : PureC Try.prog 14 ⟨[.str], [T27, .bool], ammoniteref10_ReadCheckin.f K⟩ :=
 fn_sound (itOk _ _) (E := ammoniteref10_ReadCheckin.E K) (full_ok tys_ok ammoniteref10_ReadCheckin.itsOk (ammoniteref10_ReadCheckin.tbOk K) par_ok bld_ok bty_ok) mixed Try.func14 (c := ammoniteref10_ReadCheckin.code) (by kernel_rfl) (by kernel_rfl) (by decide) (by kernel_rfl)
noncomputable def ammonitekeep_Checkins.tb (K : Nat) : Tb := [(50, ⟨[(.slice T56), (.slice T56)], [.bool], ammonitebook_Same_File.f K⟩), (51, ⟨[(.slice .str), (.slice .str)], [.bool], ammonitebook_Same_string.f K⟩), (21, ⟨[(.slice T42), (.slice T42)], [.bool], ammonitebook_Same_TagOp.f K⟩)]
noncomputable def ammonitekeep_Checkins.its : Itb := []
noncomputable def ammonitekeep_Checkins.code : Code := (Try.f15.body).getD .skip
noncomputable def ammonitekeep_Checkins.nm : Nat → NormSpec := lookN []
noncomputable def ammonitekeep_Checkins.pre : Nat → Option NormSpec := lookP []
noncomputable def ammonitekeep_Checkins.E (K : Nat) : Env := ⟨lookR tys, bty, fullCall ammonitekeep_Checkins.its (ammonitekeep_Checkins.tb K) bids⟩
noncomputable def ammonitekeep_Checkins.ret (K : Nat) : St → Option (resT [.bool]).den := retA (ammonitekeep_Checkins.E K) [.bool] [(.tmp 4)]
noncomputable def ammonitekeep_Checkins.C (K : Nat) : CEnv (resT [.bool]).den := ⟨ammonitekeep_Checkins.E K, 52, K, ammonitekeep_Checkins.nm, ammonitekeep_Checkins.ret K, [], fun _ => false, ammonitekeep_Checkins.pre, lookG []⟩
noncomputable def ammonitekeep_Checkins.f (K : Nat) (x : (prodT [T27, T27]).den) : Option (resT [.bool]).den := exec ammonitekeep_Checkins.code (ammonitekeep_Checkins.C K) (ammonitekeep_Checkins.ret K) (init [T27, T27] x)
theorem ammonitekeep_Checkins.eq (K : Nat) (a0 : D27) (b1 : D27) : ammonitekeep_Checkins.f K (a0, b1, ()) =
 ((bif (decide (a0.1 = b1.1)) then
 (bif (decide (a0.2.1 = b1.2.1)) then
 (bif (decide (a0.2.2.1 = b1.2.2.1)) then
 (bif (decide (a0.2.2.2.2.2.2.1 = b1.2.2.2.2.2.2.1)) then
 ((ammonitebook_Same_File.f K (a0.2.2.2.1, b1.2.2.2.1, ())).bind fun v_1 =>
 (bif v_1 then
 ((ammonitebook_Same_string.f K (a0.2.2.2.2.1, b1.2.2.2.2.1, ())).bind fun v_2 =>
 (bif v_2 then
 ((ammonitebook_Same_TagOp.f K (a0.2.2.2.2.2.1, b1.2.2.2.2.2.1, ())).bind fun v_3 =>
 (some v_3))
 else
 (some false)))
 else
 (some false)))
 else
 (some false))
 else
 (some false))
 else
 (some false))
 else
 (some false)) : Option Bool) := by kernel_rfl
theorem ammonitekeep_Checkins.tbOk (K : Nat) : TbOk Try.prog (ammonitekeep_Checkins.tb K) := by
 intro e he
 simp only [ammonitekeep_Checkins.tb, List.mem_cons, List.not_mem_nil, or_false] at he
 rcases he with rfl | rfl | rfl
 · exact ⟨ammonitebook_Same_File.ok K, enters_of Try.func50 (by kernel_rfl) rfl⟩
 · exact ⟨ammonitebook_Same_string.ok K, enters_of Try.func51 (by kernel_rfl) rfl⟩
 · exact ⟨ammonitebook_Same_TagOp.ok K, enters_of Try.func21 (by kernel_rfl) rfl⟩
theorem ammonitekeep_Checkins.itsOk : ItbOk Try.prog ammonitekeep_Checkins.its := by
 intro e he
 simp only [ammonitekeep_Checkins.its, List.mem_cons, List.not_mem_nil, or_false] at he
theorem ammonitekeep_Checkins.ok (K : Nat) : PureC Try.prog 15 ⟨[T27, T27], [.bool], ammonitekeep_Checkins.f K⟩ :=
 fn_sound (itOk _ _) (E := ammonitekeep_Checkins.E K) (full_ok tys_ok ammonitekeep_Checkins.itsOk (ammonitekeep_Checkins.tbOk K) par_ok bld_ok bty_ok) mixed Try.func15 (c := ammonitekeep_Checkins.code) (by kernel_rfl) (by kernel_rfl) (by decide) (by kernel_rfl)
end Go.Proofs.Ytaoadbkoambjbaa.Ab
