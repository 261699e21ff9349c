import Derived.Test.YtaoadbkoambjbaaAbt3
import Derived.Test.YtaoadbkoambjbaaProg
set_option linter.unusedVariables false
set_option linter.unusedSimpArgs false
set_option maxRecDepth 100000
namespace Go.Proofs.Ytaoadbkoambjbaa.Ab
open Go Go.RowKit Go.Proofs
noncomputable def digit_may.tb (K : Nat) : Tb := []
noncomputable def digit_may.its : Itb := []
noncomputable def digit_may.code : Code := (Try.f72.body).getD .skip
noncomputable def digit_may.nm : Nat → NormSpec := lookN []
noncomputable def digit_may.pre : Nat → Option NormSpec := lookP []
noncomputable def digit_may.E (K : Nat) : Env := ⟨lookR tys, bty, fullCall digit_may.its (digit_may.tb K) bids⟩
noncomputable def digit_may.ret (K : Nat) : St → Option (resT [.bool]).den := retA (digit_may.E K) [.bool] [(.tmp 2)]
noncomputable def digit_may.C (K : Nat) : CEnv (resT [.bool]).den := ⟨digit_may.E K, 9, K, digit_may.nm, digit_may.ret K, [], fun _ => false, digit_may.pre, lookG []⟩
noncomputable def digit_may.f (K : Nat) (x : (prodT [(.int .i64)]).den) : Option (resT [.bool]).den := exec digit_may.code (digit_may.C K) (digit_may.ret K) (init [(.int .i64)] x)
theorem digit_may.eq (K : Nat) (n0 : Int) : digit_may.f K (n0, ()) =
 ((bif (decide ((0 : Int) ≤ n0)) then
 (some (decide (n0 ≤ (1073741824 : Int))))
 else
 (some false)) : Option Bool) := by kernel_rfl
theorem digit_may.tbOk (K : Nat) : TbOk Try.prog (digit_may.tb K) := by
 intro e he
 simp only [digit_may.tb, List.mem_cons, List.not_mem_nil, or_false] at he
theorem digit_may.itsOk : ItbOk Try.prog digit_may.its := by
 intro e he
 simp only [digit_may.its, List.mem_cons, List.not_mem_nil, or_false] at he
theorem digit_may.ok (K : Nat) : PureC Try.prog 72 ⟨[(.int .i64)], [.bool], digit_may.f K⟩ :=
 fn_sound (itOk _ _) (E := digit_may.E K) (full_ok tys_ok digit_may.itsOk (digit_may.tbOk K) par_ok bld_ok bty_ok) mixed Try.func72 (c := digit_may.code) (by kernel_rfl) (by kernel_rfl) (by decide) (by kernel_rfl)
noncomputable def digit_Dec.tb (K : Nat) : Tb := [(72, ⟨[(.int .i64)], [.bool], digit_may.f K⟩)]
noncomputable def digit_Dec.its : Itb := []
noncomputable def digit_Dec.code : Code := (Try.f32.body).getD .skip
noncomputable def digit_Dec.nm : Nat → NormSpec := lookN [(5, ⟨[(0, (.data (.int .i64))), (3, (.data .str))], [], []⟩)]
noncomputable def digit_Dec.pre : Nat → Option NormSpec := lookP []
noncomputable def digit_Dec.E (K : Nat) : Env := ⟨lookR tys, bty, fullCall digit_Dec.its (digit_Dec.tb K) bids⟩
noncomputable def digit_Dec.ret (K : Nat) : St → Option (resT [.str]).den := retA (digit_Dec.E K) [.str] [(.tmp 2)]
noncomputable def digit_Dec.C (K : Nat) : CEnv (resT [.str]).den := ⟨digit_Dec.E K, 28, K, digit_Dec.nm, digit_Dec.ret K, [], fun _ => false, digit_Dec.pre, lookG []⟩
noncomputable def digit_Dec.f (K : Nat) (x : (prodT [(.int .i64)]).den) : Option (resT [.str]).den := exec digit_Dec.code (digit_Dec.C K) (digit_Dec.ret K) (init [(.int .i64)] x)
noncomputable def digit_Dec.m5 (n0 : Int) (out3 : (List UInt8)) : St := mkSt [(0, (.d (.int .i64) (n0 : Int))), (3, (.d .str (out3 : (List UInt8))))] []
noncomputable def digit_Dec.r5 (K : Nat)  (n : Nat) : St → Option (List UInt8) := loopAt [.r, .r, .r, .l, .r, .b] digit_Dec.code (digit_Dec.C K) (digit_Dec.ret K) [] n
noncomputable def digit_Dec.l5 (K : Nat)  (n : Nat) (n0 : Int) (out3 : (List UInt8)) : Option (List UInt8) := digit_Dec.r5 K n (digit_Dec.m5 n0 out3)
theorem digit_Dec.eq (K : Nat) (n0 : Int) : digit_Dec.f K (n0, ()) =
 (((digit_may.f K (n0, ())).bind fun v_1 =>
 (bif (!v_1) then
 (some ([] : List UInt8))
 else
 (digit_Dec.l5 K K (IntKind.wrap .i64 (Int.tdiv n0 (10 : Int))) (textOf ([(IntKind.wrap .u8 ((IntKind.wrap .i64 ((48 : Int) + (Int.tmod n0 (10 : Int))))))] : List Int))))) : Option (List UInt8)) := by kernel_rfl
theorem digit_Dec.l5_succ (K : Nat)  (n : Nat) (n0 : Int) (out3 : (List UInt8)) : digit_Dec.l5 K (n + 1) n0 out3 =
 ((bif (decide ((0 : Int) < n0)) then
 (chks [(catOk (textOf ([(IntKind.wrap .u8 ((IntKind.wrap .i64 ((48 : Int) + (Int.tmod n0 (10 : Int))))))] : List Int)) out3)]
 (digit_Dec.l5 K n (IntKind.wrap .i64 (Int.tdiv n0 (10 : Int))) ((textOf ([(IntKind.wrap .u8 ((IntKind.wrap .i64 ((48 : Int) + (Int.tmod n0 (10 : Int))))))] : List Int)) ++ out3)))
 else
 (some out3)) : Option (List UInt8)) := by kernel_rfl
theorem digit_Dec.tbOk (K : Nat) : TbOk Try.prog (digit_Dec.tb K) := by
 intro e he
 simp only [digit_Dec.tb, List.mem_cons, List.not_mem_nil, or_false] at he
 rcases he with rfl
 · exact ⟨digit_may.ok K, enters_of Try.func72 (by kernel_rfl) rfl⟩
theorem digit_Dec.itsOk : ItbOk Try.prog digit_Dec.its := by
 intro e he
 simp only [digit_Dec.its, List.mem_cons, List.not_mem_nil, or_false] at he
theorem digit_Dec.ok (K : Nat) : PureC Try.prog 32 ⟨[(.int .i64)], [.str], digit_Dec.f K⟩ :=
 fn_sound (itOk _ _) (E := digit_Dec.E K) (full_ok tys_ok digit_Dec.itsOk (digit_Dec.tbOk K) par_ok bld_ok bty_ok) mixed Try.func32 (c := digit_Dec.code) (by kernel_rfl) (by kernel_rfl) (by decide) (by kernel_rfl)
noncomputable def digit_ReadDec.tb (K : Nat) : Tb := [(32, ⟨[(.int .i64)], [.str], digit_Dec.f K⟩)]
noncomputable def digit_ReadDec.its : Itb := []
noncomputable def digit_ReadDec.code : Code := (Try.f37.body).getD .skip
noncomputable def digit_ReadDec.nm : Nat → NormSpec := lookN [(3, ⟨[(0, (.data .str)), (4, (.data (.int .i64))), (7, (.data (.int .i64))), (8, (.data (.int .i64)))], [], []⟩)]
noncomputable def digit_ReadDec.pre : Nat → Option NormSpec := lookP []
noncomputable def digit_ReadDec.E (K : Nat) : Env := ⟨lookR tys, bty, fullCall digit_ReadDec.its (digit_ReadDec.tb K) bids⟩
noncomputable def digit_ReadDec.ret (K : Nat) : St → Option (resT [(.int .i64), .bool]).den := retA (digit_ReadDec.E K) [(.int .i64), .bool] [(.tmp 2), (.tmp 3)]
noncomputable def digit_ReadDec.C (K : Nat) : CEnv (resT [(.int .i64), .bool]).den := ⟨digit_ReadDec.E K, 43, K, digit_ReadDec.nm, digit_ReadDec.ret K, [], fun _ => false, digit_ReadDec.pre, lookG []⟩
noncomputable def digit_ReadDec.f (K : Nat) (x : (prodT [.str]).den) : Option (resT [(.int .i64), .bool]).den := exec digit_ReadDec.code (digit_ReadDec.C K) (digit_ReadDec.ret K) (init [.str] x)
noncomputable def digit_ReadDec.m3 (s0 : (List UInt8)) (n4 : Int) (t7 : Int) (t8 : Int) : St := mkSt [(0, (.d .str (s0 : (List UInt8)))), (4, (.d (.int .i64) (n4 : Int))), (7, (.d (.int .i64) (t7 : Int))), (8, (.d (.int .i64) (t8 : Int)))] []
noncomputable def digit_ReadDec.r3 (K : Nat)  (n : Nat) : St → Option (Int × Bool × Unit) := loopAt [.r, .r, .l, .r, .b] digit_ReadDec.code (digit_ReadDec.C K) (digit_ReadDec.ret K) [] n
noncomputable def digit_ReadDec.l3 (K : Nat)  (n : Nat) (s0 : (List UInt8)) (n4 : Int) (t7 : Int) (t8 : Int) : Option (Int × Bool × Unit) := digit_ReadDec.r3 K n (digit_ReadDec.m3 s0 n4 t7 t8)
theorem digit_ReadDec.eq (K : Nat) (s0 : (List UInt8)) : digit_ReadDec.f K (s0, ()) =
 ((digit_ReadDec.l3 K K s0 (0 : Int) (List.length s0 : Int) (0 : Int)) : Option (Int × Bool × Unit)) := by kernel_rfl
theorem digit_ReadDec.l3_succ (K : Nat)  (n : Nat) (s0 : (List UInt8)) (n4 : Int) (t7 : Int) (t8 : Int) : digit_ReadDec.l3 K (n + 1) s0 n4 t7 t8 =
 ((bif (decide (t8 < t7)) then
 (chks [(decide ((0 : Int) ≤ t8)), (decide (t8 < (List.length s0 : Int)))]
 (bif (decide (((List.getD s0 (Int.toNat t8) 0).toNat : Int) < (48 : Int))) then
 (some ((0 : Int), false, ()))
 else
 (chks [(decide ((0 : Int) ≤ t8)), (decide (t8 < (List.length s0 : Int)))]
 (bif (decide ((57 : Int) < ((List.getD s0 (Int.toNat t8) 0).toNat : Int))) then
 (some ((0 : Int), false, ()))
 else
 (bif (decide ((1073741824 : Int) < n4)) then
 (some ((0 : Int), false, ()))
 else
 (chks [(decide ((0 : Int) ≤ t8)), (decide (t8 < (List.length s0 : Int)))]
 (digit_ReadDec.l3 K n s0 (IntKind.wrap .i64 ((IntKind.wrap .i64 ((10 : Int) * n4)) + (IntKind.wrap .i64 ((IntKind.wrap .u8 (((List.getD s0 (Int.toNat t8) 0).toNat : Int) - (48 : Int))))))) t7 (IntKind.wrap .i64 (t8 + (1 : Int))))))))))
 else
 (bif (decide (s0 = ([] : List UInt8))) then
 (some ((0 : Int), false, ()))
 else
 ((digit_Dec.f K (n4, ())).bind fun v_1 =>
 (bif (!(decide (v_1 = s0))) then
 (some ((0 : Int), false, ()))
 else
 (some (n4, true, ())))))) : Option (Int × Bool × Unit)) := by kernel_rfl
theorem digit_ReadDec.tbOk (K : Nat) : TbOk Try.prog (digit_ReadDec.tb K) := by
 intro e he
 simp only [digit_ReadDec.tb, List.mem_cons, List.not_mem_nil, or_false] at he
 rcases he with rfl
 · exact ⟨digit_Dec.ok K, enters_of Try.func32 (by kernel_rfl) rfl⟩
theorem digit_ReadDec.itsOk : ItbOk Try.prog digit_ReadDec.its := by
 intro e he
 simp only [digit_ReadDec.its, List.mem_cons, List.not_mem_nil, or_false] at he
theorem digit_ReadDec.ok (K : Nat) : PureC Try.prog 37 ⟨[.str], [(.int .i64), .bool], digit_ReadDec.f K⟩ :=
 fn_sound (itOk _ _) (E := digit_ReadDec.E K) (full_ok tys_ok digit_ReadDec.itsOk (digit_ReadDec.tbOk K) par_ok bld_ok bty_ok) mixed Try.func37 (c := digit_ReadDec.code) (by kernel_rfl) (by kernel_rfl) (by decide) (by kernel_rfl)
noncomputable def ammoniteref1_Dec.tb (K : Nat) (self : (prodT [(.int .i64)]).den → Option (resT [.str]).den) : Tb := [(41, ⟨[(.int .i64)], [.str], self⟩)]
noncomputable def ammoniteref1_Dec.code : Code := (Try.f41.body).getD .skip
noncomputable def ammoniteref1_Dec.E (K : Nat) (self : (prodT [(.int .i64)]).den → Option (resT [.str]).den) : Env := ⟨lookR tys, bty, fullCall [] (ammoniteref1_Dec.tb K self) bids⟩
noncomputable def ammoniteref1_Dec.ret (K : Nat) (self : (prodT [(.int .i64)]).den → Option (resT [.str]).den) : St → Option (resT [.str]).den := retA (ammoniteref1_Dec.E K self) [.str] [(.tmp 2)]
noncomputable def ammoniteref1_Dec.C (K : Nat) (self : (prodT [(.int .i64)]).den → Option (resT [.str]).den) : CEnv (resT [.str]).den := ⟨ammoniteref1_Dec.E K self, 26, K, lookN [], ammoniteref1_Dec.ret K self, [], fun _ => false, lookP [], fun _ => 0⟩
noncomputable def ammoniteref1_Dec.one (K : Nat) (self : (prodT [(.int .i64)]).den → Option (resT [.str]).den) (x : (prodT [(.int .i64)]).den) : Option (resT [.str]).den := exec ammoniteref1_Dec.code (ammoniteref1_Dec.C K self) (ammoniteref1_Dec.ret K self) (init [(.int .i64)] x)
noncomputable def ammoniteref1_Dec.deep (K : Nat) : Nat → (prodT [(.int .i64)]).den → Option (resT [.str]).den
 | 0 => fun _ => none
 | d + 1 => ammoniteref1_Dec.one K (ammoniteref1_Dec.deep K d)
noncomputable def ammoniteref1_Dec.f (K : Nat) : (prodT [(.int .i64)]).den → Option (resT [.str]).den := ammoniteref1_Dec.deep K K
theorem ammoniteref1_Dec.deep_succ (K d : Nat) (n0 : Int) : ammoniteref1_Dec.deep K (d + 1) (n0, ()) =
 ((bif (decide (n0 < (0 : Int))) then
 (some ([] : List UInt8))
 else
 (bif (decide ((1073741824 : Int) < n0)) then
 (some ([] : List UInt8))
 else
 (bif (decide (n0 < (10 : Int))) then
 (some (textOf ([(IntKind.wrap .u8 ((IntKind.wrap .i64 ((48 : Int) + n0))))] : List Int)))
 else
 ((ammoniteref1_Dec.deep K d ((IntKind.wrap .i64 (Int.tdiv n0 (10 : Int))), ())).bind fun v_1 =>
 (chks [(catOk v_1 (textOf ([(IntKind.wrap .u8 ((IntKind.wrap .i64 ((48 : Int) + (Int.tmod n0 (10 : Int))))))] : List Int)))]
 (some (v_1 ++ (textOf ([(IntKind.wrap .u8 ((IntKind.wrap .i64 ((48 : Int) + (Int.tmod n0 (10 : Int))))))] : List Int))))))))) : Option (List UInt8)) := by kernel_rfl
theorem ammoniteref1_Dec.tbOk (K : Nat) {self : (prodT [(.int .i64)]).den → Option (resT [.str]).den} (h : PureC Try.prog 41 ⟨[(.int .i64)], [.str], self⟩) : TbOk Try.prog (ammoniteref1_Dec.tb K self) := by
 intro e he
 simp only [ammoniteref1_Dec.tb, List.mem_cons, List.not_mem_nil, or_false] at he
 rcases he with rfl
 · exact ⟨h, enters_of Try.func41 (by kernel_rfl) rfl⟩
theorem ammoniteref1_Dec.deepOk (K : Nat) : ∀ d : Nat, PureC Try.prog 41 ⟨[(.int .i64)], [.str], ammoniteref1_Dec.deep K d⟩ := by
 intro d
 induction d with
 | zero => intro x r h; cases h
 | succ d ih =>
 show PureC Try.prog 41 ⟨[(.int .i64)], [.str], ammoniteref1_Dec.one K (ammoniteref1_Dec.deep K d)⟩
 exact fn_sound (itOk _ _) (E := ammoniteref1_Dec.E K (ammoniteref1_Dec.deep K d)) (full_ok tys_ok (fun _ h => nomatch h) (ammoniteref1_Dec.tbOk K ih) par_ok bld_ok bty_ok) mixed Try.func41 (c := ammoniteref1_Dec.code) (by kernel_rfl) (by kernel_rfl) (by decide) (by kernel_rfl)
theorem ammoniteref1_Dec.ok (K : Nat) : PureC Try.prog 41 ⟨[(.int .i64)], [.str], ammoniteref1_Dec.f K⟩ := ammoniteref1_Dec.deepOk K K
noncomputable def ammoniteref1_ReadDec.tb (K : Nat) : Tb := []
noncomputable def ammoniteref1_ReadDec.its : Itb := []
noncomputable def ammoniteref1_ReadDec.code : Code := (Try.f49.body).getD .skip
noncomputable def ammoniteref1_ReadDec.nm : Nat → NormSpec := lookN [(3, ⟨[(0, (.data .str)), (3, (.data (.int .i64))), (4, (.data (.int .i64)))], [], []⟩)]
noncomputable def ammoniteref1_ReadDec.pre : Nat → Option NormSpec := lookP []
noncomputable def ammoniteref1_ReadDec.E (K : Nat) : Env := ⟨lookR tys, bty, fullCall ammoniteref1_ReadDec.its (ammoniteref1_ReadDec.tb K) bids⟩
noncomputable def ammoniteref1_ReadDec.ret (K : Nat) : St → Option (resT [(.int .i64)]).den := retA (ammoniteref1_ReadDec.E K) [(.int .i64)] [(.tmp 2)]
noncomputable def ammoniteref1_ReadDec.C (K : Nat) : CEnv (resT [(.int .i64)]).den := ⟨ammoniteref1_ReadDec.E K, 45, K, ammoniteref1_ReadDec.nm, ammoniteref1_ReadDec.ret K, [], fun _ => false, ammoniteref1_ReadDec.pre, lookG []⟩
noncomputable def ammoniteref1_ReadDec.f (K : Nat) (x : (prodT [.str]).den) : Option (resT [(.int .i64)]).den := exec ammoniteref1_ReadDec.code (ammoniteref1_ReadDec.C K) (ammoniteref1_ReadDec.ret K) (init [.str] x)
noncomputable def ammoniteref1_ReadDec.m3 (s0 : (List UInt8)) (n3 : Int) (i4 : Int) : St := mkSt [(0, (.d .str (s0 : (List UInt8)))), (3, (.d (.int .i64) (n3 : Int))), (4, (.d (.int .i64) (i4 : Int)))] []
noncomputable def ammoniteref1_ReadDec.r3 (K : Nat)  (n : Nat) : St → Option Int := loopAt [.r, .r, .l, .r, .b] ammoniteref1_ReadDec.code (ammoniteref1_ReadDec.C K) (ammoniteref1_ReadDec.ret K) [] n
noncomputable def ammoniteref1_ReadDec.l3 (K : Nat)  (n : Nat) (s0 : (List UInt8)) (n3 : Int) (i4 : Int) : Option Int := ammoniteref1_ReadDec.r3 K n (ammoniteref1_ReadDec.m3 s0 n3 i4)
theorem ammoniteref1_ReadDec.eq (K : Nat) (s0 : (List UInt8)) : ammoniteref1_ReadDec.f K (s0, ()) =
 ((ammoniteref1_ReadDec.l3 K K s0 (0 : Int) (0 : Int)) : Option Int) := by kernel_rfl
theorem ammoniteref1_ReadDec.l3_succ (K : Nat)  (n : Nat) (s0 : (List UInt8)) (n3 : Int) (i4 : Int) : ammoniteref1_ReadDec.l3 K (n + 1) s0 n3 i4 =
 ((bif (decide (i4 < (List.length s0 : Int))) then
 (chks [(decide ((0 : Int) ≤ i4)), (decide (i4 < (List.length s0 : Int)))]
 (bif (decide (((List.getD s0 (Int.toNat i4) 0).toNat : Int) < (48 : Int))) then
 (some (-1 : Int))
 else
 (chks [(decide ((0 : Int) ≤ i4)), (decide (i4 < (List.length s0 : Int)))]
 (bif (decide ((57 : Int) < ((List.getD s0 (Int.toNat i4) 0).toNat : Int))) then
 (some (-1 : Int))
 else
 (chks [(decide ((0 : Int) ≤ i4)), (decide (i4 < (List.length s0 : Int)))]
 (bif (decide ((1073741824 : Int) < (IntKind.wrap .i64 ((IntKind.wrap .i64 (n3 * (10 : Int))) + (IntKind.wrap .i64 ((IntKind.wrap .u8 (((List.getD s0 (Int.toNat i4) 0).toNat : Int) - (48 : Int))))))))) then
 (some (-1 : Int))
 else
 (ammoniteref1_ReadDec.l3 K n s0 (IntKind.wrap .i64 ((IntKind.wrap .i64 (n3 * (10 : Int))) + (IntKind.wrap .i64 ((IntKind.wrap .u8 (((List.getD s0 (Int.toNat i4) 0).toNat : Int) - (48 : Int))))))) (IntKind.wrap .i64 (i4 + (1 : Int))))))))))
 else
 (bif (decide ((List.length s0 : Int) = (0 : Int))) then
 (some (-1 : Int))
 else
 (bif (decide ((1 : Int) < (List.length s0 : Int))) then
 (chks [(decide ((0 : Int) < (List.length s0 : Int)))]
 (bif (decide (((List.getD s0 (Int.toNat (0 : Int)) 0).toNat : Int) = (48 : Int))) then
 (some (-1 : Int))
 else
 (some n3)))
 else
 (some n3)))) : Option Int) := by kernel_rfl
theorem ammoniteref1_ReadDec.tbOk (K : Nat) : TbOk Try.prog (ammoniteref1_ReadDec.tb K) := by
 intro e he
 simp only [ammoniteref1_ReadDec.tb, List.mem_cons, List.not_mem_nil, or_false] at he
theorem ammoniteref1_ReadDec.itsOk : ItbOk Try.prog ammoniteref1_ReadDec.its := by
 intro e he
 simp only [ammoniteref1_ReadDec.its, List.mem_cons, List.not_mem_nil, or_false] at he
theorem ammoniteref1_ReadDec.ok (K : Nat) : PureC Try.prog 49 ⟨[.str], [(.int .i64)], ammoniteref1_ReadDec.f K⟩ :=
 fn_sound (itOk _ _) (E := ammoniteref1_ReadDec.E K) (full_ok tys_ok ammoniteref1_ReadDec.itsOk (ammoniteref1_ReadDec.tbOk K) par_ok bld_ok bty_ok) mixed Try.func49 (c := ammoniteref1_ReadDec.code) (by kernel_rfl) (by kernel_rfl) (by decide) (by kernel_rfl)
noncomputable def escape_Word.tb (K : Nat) : Tb := []
noncomputable def escape_Word.its : Itb := []
noncomputable def escape_Word.code : Code := (Try.f56.body).getD .skip
noncomputable def escape_Word.nm : Nat → NormSpec := lookN [(2, ⟨[(0, (.data .str)), (5, (.data (.int .i64))), (6, (.data (.int .i64)))], [], []⟩)]
noncomputable def escape_Word.pre : Nat → Option NormSpec := lookP []
noncomputable def escape_Word.E (K : Nat) : Env := ⟨lookR tys, bty, fullCall escape_Word.its (escape_Word.tb K) bids⟩
noncomputable def escape_Word.ret (K : Nat) : St → Option (resT [.bool]).den := retA (escape_Word.E K) [.bool] [(.tmp 2)]
noncomputable def escape_Word.C (K : Nat) : CEnv (resT [.bool]).den := ⟨escape_Word.E K, 33, K, escape_Word.nm, escape_Word.ret K, [], fun _ => false, escape_Word.pre, lookG []⟩
noncomputable def escape_Word.f (K : Nat) (x : (prodT [.str]).den) : Option (resT [.bool]).den := exec escape_Word.code (escape_Word.C K) (escape_Word.ret K) (init [.str] x)
noncomputable def escape_Word.m2 (s0 : (List UInt8)) (t5 : Int) (t6 : Int) : St := mkSt [(0, (.d .str (s0 : (List UInt8)))), (5, (.d (.int .i64) (t5 : Int))), (6, (.d (.int .i64) (t6 : Int)))] []
noncomputable def escape_Word.r2 (K : Nat)  (n : Nat) : St → Option Bool := loopAt [.r, .l, .r, .b] escape_Word.code (escape_Word.C K) (escape_Word.ret K) [] n
noncomputable def escape_Word.l2 (K : Nat)  (n : Nat) (s0 : (List UInt8)) (t5 : Int) (t6 : Int) : Option Bool := escape_Word.r2 K n (escape_Word.m2 s0 t5 t6)
theorem escape_Word.eq (K : Nat) (s0 : (List UInt8)) : escape_Word.f K (s0, ()) =
 ((escape_Word.l2 K K s0 (List.length s0 : Int) (0 : Int)) : Option Bool) := by kernel_rfl
theorem escape_Word.l2_succ (K : Nat)  (n : Nat) (s0 : (List UInt8)) (t5 : Int) (t6 : Int) : escape_Word.l2 K (n + 1) s0 t5 t6 =
 ((bif (decide (t6 < t5)) then
 (chks [(decide ((0 : Int) ≤ t6)), (decide (t6 < (List.length s0 : Int)))]
 (bif (decide (((List.getD s0 (Int.toNat t6) 0).toNat : Int) ≤ (32 : Int))) then
 (some false)
 else
 (chks [(decide ((0 : Int) ≤ t6)), (decide (t6 < (List.length s0 : Int)))]
 (bif (decide ((126 : Int) < ((List.getD s0 (Int.toNat t6) 0).toNat : Int))) then
 (some false)
 else
 (chks [(decide ((0 : Int) ≤ t6)), (decide (t6 < (List.length s0 : Int)))]
 (bif (decide (((List.getD s0 (Int.toNat t6) 0).toNat : Int) = (92 : Int))) then
 (some false)
 else
 (escape_Word.l2 K n s0 t5 (IntKind.wrap .i64 (t6 + (1 : Int))))))))))
 else
 (bif (!(decide (s0 = ([] : List UInt8)))) then
 (some (decide ((List.length s0 : Int) ≤ (12 : Int))))
 else
 (some false))) : Option Bool) := by kernel_rfl
theorem escape_Word.tbOk (K : Nat) : TbOk Try.prog (escape_Word.tb K) := by
 intro e he
 simp only [escape_Word.tb, List.mem_cons, List.not_mem_nil, or_false] at he
theorem escape_Word.itsOk : ItbOk Try.prog escape_Word.its := by
 intro e he
 simp only [escape_Word.its, List.mem_cons, List.not_mem_nil, or_false] at he
theorem escape_Word.ok (K : Nat) : PureC Try.prog 56 ⟨[.str], [.bool], escape_Word.f K⟩ :=
 fn_sound (itOk _ _) (E := escape_Word.E K) (full_ok tys_ok escape_Word.itsOk (escape_Word.tbOk K) par_ok bld_ok bty_ok) mixed Try.func56 (c := escape_Word.code) (by kernel_rfl) (by kernel_rfl) (by decide) (by kernel_rfl)
noncomputable def ammoniteref10_Word.tb (K : Nat) : Tb := []
noncomputable def ammoniteref10_Word.its : Itb := []
noncomputable def ammoniteref10_Word.code : Code := (Try.f59.body).getD .skip
noncomputable def ammoniteref10_Word.nm : Nat → NormSpec := lookN [(2, ⟨[(0, (.data .str)), (3, (.data (.int .i64)))], [], []⟩)]
noncomputable def ammoniteref10_Word.pre : Nat → Option NormSpec := lookP []
noncomputable def ammoniteref10_Word.E (K : Nat) : Env := ⟨lookR tys, bty, fullCall ammoniteref10_Word.its (ammoniteref10_Word.tb K) bids⟩
noncomputable def ammoniteref10_Word.ret (K : Nat) : St → Option (resT [.bool]).den := retA (ammoniteref10_Word.E K) [.bool] [(.tmp 2)]
noncomputable def ammoniteref10_Word.C (K : Nat) : CEnv (resT [.bool]).den := ⟨ammoniteref10_Word.E K, 34, K, ammoniteref10_Word.nm, ammoniteref10_Word.ret K, [], fun _ => false, ammoniteref10_Word.pre, lookG []⟩
noncomputable def ammoniteref10_Word.f (K : Nat) (x : (prodT [.str]).den) : Option (resT [.bool]).den := exec ammoniteref10_Word.code (ammoniteref10_Word.C K) (ammoniteref10_Word.ret K) (init [.str] x)
noncomputable def ammoniteref10_Word.m2 (s0 : (List UInt8)) (i3 : Int) : St := mkSt [(0, (.d .str (s0 : (List UInt8)))), (3, (.d (.int .i64) (i3 : Int)))] []
noncomputable def ammoniteref10_Word.r2 (K : Nat)  (n : Nat) : St → Option Bool := loopAt [.r, .l, .r, .b] ammoniteref10_Word.code (ammoniteref10_Word.C K) (ammoniteref10_Word.ret K) [] n
noncomputable def ammoniteref10_Word.l2 (K : Nat)  (n : Nat) (s0 : (List UInt8)) (i3 : Int) : Option Bool := ammoniteref10_Word.r2 K n (ammoniteref10_Word.m2 s0 i3)
theorem ammoniteref10_Word.eq (K : Nat) (s0 : (List UInt8)) : ammoniteref10_Word.f K (s0, ()) =
 ((ammoniteref10_Word.l2 K K s0 (0 : Int)) : Option Bool) := by kernel_rfl
theorem ammoniteref10_Word.l2_succ (K : Nat)  (n : Nat) (s0 : (List UInt8)) (i3 : Int) : ammoniteref10_Word.l2 K (n + 1) s0 i3 =
 ((bif (decide (i3 < (List.length s0 : Int))) then
 (chks [(decide ((0 : Int) ≤ i3)), (decide (i3 < (List.length s0 : Int)))]
 (bif (decide (((List.getD s0 (Int.toNat i3) 0).toNat : Int) ≤ (32 : Int))) then
 (some false)
 else
 (chks [(decide ((0 : Int) ≤ i3)), (decide (i3 < (List.length s0 : Int)))]
 (bif (decide ((126 : Int) < ((List.getD s0 (Int.toNat i3) 0).toNat : Int))) then
 (some false)
 else
 (chks [(decide ((0 : Int) ≤ i3)), (decide (i3 < (List.length s0 : Int)))]
 (bif (decide (((List.getD s0 (Int.toNat i3) 0).toNat : Int) = (92 : Int))) then
 (some false)
 else
 (ammoniteref10_Word.l2 K n s0 (IntKind.wrap .i64 (i3 + (1 : Int))))))))))
 else
 (bif (decide ((1 : Int) ≤ (List.length s0 : Int))) then
 (some (decide ((List.length s0 : Int) ≤ (12 : Int))))
 else
 (some false))) : Option Bool) := by kernel_rfl
theorem ammoniteref10_Word.tbOk (K : Nat) : TbOk Try.prog (ammoniteref10_Word.tb K) := by
 intro e he
 simp only [ammoniteref10_Word.tb, List.mem_cons, List.not_mem_nil, or_false] at he
theorem ammoniteref10_Word.itsOk : ItbOk Try.prog ammoniteref10_Word.its := by
 intro e he
 simp only [ammoniteref10_Word.its, List.mem_cons, List.not_mem_nil, or_false] at he
theorem ammoniteref10_Word.ok (K : Nat) : PureC Try.prog 59 ⟨[.str], [.bool], ammoniteref10_Word.f K⟩ :=
 fn_sound (itOk _ _) (E := ammoniteref10_Word.E K) (full_ok tys_ok ammoniteref10_Word.itsOk (ammoniteref10_Word.tbOk K) par_ok bld_ok bty_ok) mixed Try.func59 (c := ammoniteref10_Word.code) (by kernel_rfl) (by kernel_rfl) (by decide) (by kernel_rfl)
noncomputable def hash_Is.tb (K : Nat) : Tb := [(80, ⟨[.str, (.int .u8)], [(.int .i64)], strings_IndexByte.f K⟩)]
noncomputable def hash_Is.its : Itb := []
noncomputable def hash_Is.code : Code := (Try.f52.body).getD .skip
noncomputable def hash_Is.nm : Nat → NormSpec := lookN [(2, ⟨[(0, (.data .str)), (5, (.data (.int .i64))), (6, (.data (.int .i64)))], [], []⟩)]
noncomputable def hash_Is.pre : Nat → Option NormSpec := lookP []
noncomputable def hash_Is.E (K : Nat) : Env := ⟨lookR tys, bty, fullCall hash_Is.its (hash_Is.tb K) bids⟩
noncomputable def hash_Is.ret (K : Nat) : St → Option (resT [.bool]).den := retA (hash_Is.E K) [.bool] [(.tmp 2)]
noncomputable def hash_Is.C (K : Nat) : CEnv (resT [.bool]).den := ⟨hash_Is.E K, 18, K, hash_Is.nm, hash_Is.ret K, [], fun _ => false, hash_Is.pre, lookG []⟩
noncomputable def hash_Is.f (K : Nat) (x : (prodT [.str]).den) : Option (resT [.bool]).den := exec hash_Is.code (hash_Is.C K) (hash_Is.ret K) (init [.str] x)
noncomputable def hash_Is.m2 (s0 : (List UInt8)) (t5 : Int) (t6 : Int) : St := mkSt [(0, (.d .str (s0 : (List UInt8)))), (5, (.d (.int .i64) (t5 : Int))), (6, (.d (.int .i64) (t6 : Int)))] []
noncomputable def hash_Is.r2 (K : Nat)  (n : Nat) : St → Option Bool := loopAt [.r, .l, .r, .b] hash_Is.code (hash_Is.C K) (hash_Is.ret K) [] n
noncomputable def hash_Is.l2 (K : Nat)  (n : Nat) (s0 : (List UInt8)) (t5 : Int) (t6 : Int) : Option Bool := hash_Is.r2 K n (hash_Is.m2 s0 t5 t6)
theorem hash_Is.eq (K : Nat) (s0 : (List UInt8)) : hash_Is.f K (s0, ()) =
 ((hash_Is.l2 K K s0 (List.length s0 : Int) (0 : Int)) : Option Bool) := by kernel_rfl
theorem hash_Is.l2_succ (K : Nat)  (n : Nat) (s0 : (List UInt8)) (t5 : Int) (t6 : Int) : hash_Is.l2 K (n + 1) s0 t5 t6 =
 ((bif (decide (t6 < t5)) then
 (chks [(decide ((0 : Int) ≤ t6)), (decide (t6 < (List.length s0 : Int)))]
 ((strings_IndexByte.f K (([48, 49, 50, 51, 52, 53, 54, 55, 56, 57, 97, 98, 99, 100, 101, 102] : List UInt8), ((List.getD s0 (Int.toNat t6) 0).toNat : Int), ())).bind fun v_1 =>
 (bif (decide (v_1 < (0 : Int))) then
 (some false)
 else
 (hash_Is.l2 K n s0 t5 (IntKind.wrap .i64 (t6 + (1 : Int)))))))
 else
 (some (decide ((List.length s0 : Int) = (40 : Int))))) : Option Bool) := by kernel_rfl
theorem hash_Is.tbOk (K : Nat) : TbOk Try.prog (hash_Is.tb K) := by
 intro e he
 simp only [hash_Is.tb, List.mem_cons, List.not_mem_nil, or_false] at he
 rcases he with rfl
 · exact ⟨strings_IndexByte.ok K, enters_of Try.func80 (by kernel_rfl) rfl⟩
theorem hash_Is.itsOk : ItbOk Try.prog hash_Is.its := by
 intro e he
 simp only [hash_Is.its, List.mem_cons, List.not_mem_nil, or_false] at he
theorem hash_Is.ok (K : Nat) : PureC Try.prog 52 ⟨[.str], [.bool], hash_Is.f K⟩ :=
 fn_sound (itOk _ _) (E := hash_Is.E K) (full_ok tys_ok hash_Is.itsOk (hash_Is.tbOk K) par_ok bld_ok bty_ok) mixed Try.func52 (c := hash_Is.code) (by kernel_rfl) (by kernel_rfl) (by decide) (by kernel_rfl)
noncomputable def ammoniteref1_Is.tb (K : Nat) : Tb := []
noncomputable def ammoniteref1_Is.its : Itb := []
noncomputable def ammoniteref1_Is.code : Code := (Try.f58.body).getD .skip
noncomputable def ammoniteref1_Is.nm : Nat → NormSpec := lookN [(2, ⟨[(0, (.data .str)), (3, (.data (.int .i64)))], [], []⟩)]
noncomputable def ammoniteref1_Is.pre : Nat → Option NormSpec := lookP []
noncomputable def ammoniteref1_Is.E (K : Nat) : Env := ⟨lookR tys, bty, fullCall ammoniteref1_Is.its (ammoniteref1_Is.tb K) bids⟩
noncomputable def ammoniteref1_Is.ret (K : Nat) : St → Option (resT [.bool]).den := retA (ammoniteref1_Is.E K) [.bool] [(.tmp 2)]
noncomputable def ammoniteref1_Is.C (K : Nat) : CEnv (resT [.bool]).den := ⟨ammoniteref1_Is.E K, 35, K, ammoniteref1_Is.nm, ammoniteref1_Is.ret K, [], fun _ => false, ammoniteref1_Is.pre, lookG []⟩
noncomputable def ammoniteref1_Is.f (K : Nat) (x : (prodT [.str]).den) : Option (resT [.bool]).den := exec ammoniteref1_Is.code (ammoniteref1_Is.C K) (ammoniteref1_Is.ret K) (init [.str] x)
noncomputable def ammoniteref1_Is.m2 (s0 : (List UInt8)) (i3 : Int) : St := mkSt [(0, (.d .str (s0 : (List UInt8)))), (3, (.d (.int .i64) (i3 : Int)))] []
noncomputable def ammoniteref1_Is.r2 (K : Nat)  (n : Nat) : St → Option Bool := loopAt [.r, .l, .r, .b] ammoniteref1_Is.code (ammoniteref1_Is.C K) (ammoniteref1_Is.ret K) [] n
noncomputable def ammoniteref1_Is.l2 (K : Nat)  (n : Nat) (s0 : (List UInt8)) (i3 : Int) : Option Bool := ammoniteref1_Is.r2 K n (ammoniteref1_Is.m2 s0 i3)
theorem ammoniteref1_Is.eq (K : Nat) (s0 : (List UInt8)) : ammoniteref1_Is.f K (s0, ()) =
 ((ammoniteref1_Is.l2 K K s0 (0 : Int)) : Option Bool) := by kernel_rfl
theorem ammoniteref1_Is.l2_succ (K : Nat)  (n : Nat) (s0 : (List UInt8)) (i3 : Int) : ammoniteref1_Is.l2 K (n + 1) s0 i3 =
 ((bif (decide (i3 < (List.length s0 : Int))) then
 (chks [(decide ((0 : Int) ≤ i3)), (decide (i3 < (List.length s0 : Int)))]
 (bif (decide (((List.getD s0 (Int.toNat i3) 0).toNat : Int) < (48 : Int))) then
 (chks [(decide ((0 : Int) ≤ i3)), (decide (i3 < (List.length s0 : Int)))]
 (bif (decide (((List.getD s0 (Int.toNat i3) 0).toNat : Int) < (97 : Int))) then
 (some false)
 else
 (chks [(decide ((0 : Int) ≤ i3)), (decide (i3 < (List.length s0 : Int)))]
 (bif (decide ((102 : Int) < ((List.getD s0 (Int.toNat i3) 0).toNat : Int))) then
 (some false)
 else
 (ammoniteref1_Is.l2 K n s0 (IntKind.wrap .i64 (i3 + (1 : Int))))))))
 else
 (chks [(decide ((0 : Int) ≤ i3)), (decide (i3 < (List.length s0 : Int)))]
 (bif (decide ((57 : Int) < ((List.getD s0 (Int.toNat i3) 0).toNat : Int))) then
 (chks [(decide ((0 : Int) ≤ i3)), (decide (i3 < (List.length s0 : Int)))]
 (bif (decide (((List.getD s0 (Int.toNat i3) 0).toNat : Int) < (97 : Int))) then
 (some false)
 else
 (chks [(decide ((0 : Int) ≤ i3)), (decide (i3 < (List.length s0 : Int)))]
 (bif (decide ((102 : Int) < ((List.getD s0 (Int.toNat i3) 0).toNat : Int))) then
 (some false)
 else
 (ammoniteref1_Is.l2 K n s0 (IntKind.wrap .i64 (i3 + (1 : Int))))))))
 else
 (ammoniteref1_Is.l2 K n s0 (IntKind.wrap .i64 (i3 + (1 : Int))))))))
 else
 (some (decide ((List.length s0 : Int) = (40 : Int))))) : Option Bool) := by kernel_rfl
theorem ammoniteref1_Is.tbOk (K : Nat) : TbOk Try.prog (ammoniteref1_Is.tb K) := by
 intro e he
 simp only [ammoniteref1_Is.tb, List.mem_cons, List.not_mem_nil, or_false] at he
theorem ammoniteref1_Is.itsOk : ItbOk Try.prog ammoniteref1_Is.its := by
 intro e he
 simp only [ammoniteref1_Is.its, List.mem_cons, List.not_mem_nil, or_false] at he
theorem ammoniteref1_Is.ok (K : Nat) : PureC Try.prog 58 ⟨[.str], [.bool], ammoniteref1_Is.f K⟩ :=
 fn_sound (itOk _ _) (E := ammoniteref1_Is.E K) (full_ok tys_ok ammoniteref1_Is.itsOk (ammoniteref1_Is.tbOk K) par_ok bld_ok bty_ok) mixed Try.func58 (c := ammoniteref1_Is.code) (by kernel_rfl) (by kernel_rfl) (by decide) (by kernel_rfl)
noncomputable def escape_Put.tb (K : Nat) : Tb := []
noncomputable def escape_Put.its : Itb := []
noncomputable def escape_Put.code : Code := (Try.f31.body).getD .skip
noncomputable def escape_Put.nm : Nat → NormSpec := lookN [(3, ⟨[(0, (.data .str)), (3, .raw), (6, (.data (.int .i64))), (7, (.data (.int .i64)))], [], [3]⟩)]
noncomputable def escape_Put.pre : Nat → Option NormSpec := lookP []
noncomputable def escape_Put.E (K : Nat) : Env := ⟨lookR tys, bty, fullCall escape_Put.its (escape_Put.tb K) bids⟩
noncomputable def escape_Put.ret (K : Nat) : St → Option (resT [.str]).den := retA (escape_Put.E K) [.str] [(.tmp 2)]
noncomputable def escape_Put.C (K : Nat) : CEnv (resT [.str]).den := ⟨escape_Put.E K, 28, K, escape_Put.nm, escape_Put.ret K, [], fun _ => false, escape_Put.pre, lookG []⟩
noncomputable def escape_Put.f (K : Nat) (x : (prodT [.str]).den) : Option (resT [.str]).den := exec escape_Put.code (escape_Put.C K) (escape_Put.ret K) (init [.str] x)
noncomputable def escape_Put.m3 (s0 : (List UInt8)) (t6 : Int) (t7 : Int) (k3 : (List UInt8)) : St := mkSt [(0, (.d .str (s0 : (List UInt8)))), (3, (.ptr 3 0)), (6, (.d (.int .i64) (t6 : Int))), (7, (.d (.int .i64) (t7 : Int)))] [(3, (.bld k3))]
noncomputable def escape_Put.r3 (K : Nat)  (n : Nat) : St → Option (List UInt8) := loopAt [.r, .r, .l, .r, .b] escape_Put.code (escape_Put.C K) (escape_Put.ret K) [] n
noncomputable def escape_Put.l3 (K : Nat)  (n : Nat) (s0 : (List UInt8)) (t6 : Int) (t7 : Int) (k3 : (List UInt8)) : Option (List UInt8) := escape_Put.r3 K n (escape_Put.m3 s0 t6 t7 k3)
theorem escape_Put.eq (K : Nat) (s0 : (List UInt8)) : escape_Put.f K (s0, ()) =
 ((escape_Put.l3 K K s0 (List.length s0 : Int) (0 : Int) ([] : List UInt8)) : Option (List UInt8)) := by kernel_rfl
theorem escape_Put.l3_succ (K : Nat)  (n : Nat) (s0 : (List UInt8)) (t6 : Int) (t7 : Int) (k3 : (List UInt8)) : escape_Put.l3 K (n + 1) s0 t6 t7 k3 =
 ((bif (decide (t7 < t6)) then
 (chks [(decide ((0 : Int) ≤ t7)), (decide (t7 < (List.length s0 : Int)))]
 (bif (decide (((List.getD s0 (Int.toNat t7) 0).toNat : Int) = (32 : Int))) then
 (chks [(bldOk k3 ([92, 115] : List UInt8))]
 (escape_Put.l3 K n s0 t6 (IntKind.wrap .i64 (t7 + (1 : Int))) (k3 ++ ([92, 115] : List UInt8))))
 else
 (bif (decide (((List.getD s0 (Int.toNat t7) 0).toNat : Int) = (10 : Int))) then
 (chks [(bldOk k3 ([92, 110] : List UInt8))]
 (escape_Put.l3 K n s0 t6 (IntKind.wrap .i64 (t7 + (1 : Int))) (k3 ++ ([92, 110] : List UInt8))))
 else
 (bif (decide (((List.getD s0 (Int.toNat t7) 0).toNat : Int) = (92 : Int))) then
 (chks [(bldOk k3 ([92, 92] : List UInt8))]
 (escape_Put.l3 K n s0 t6 (IntKind.wrap .i64 (t7 + (1 : Int))) (k3 ++ ([92, 92] : List UInt8))))
 else
 (chks [(decide ((0 : Int) ≤ t7)), (decide (t7 < (List.length s0 : Int)))]
 (chks [(bldOk k3 [0]), (decide ((0 : Int) ≤ ((List.getD s0 (Int.toNat t7) 0).toNat : Int))), (decide (((List.getD s0 (Int.toNat t7) 0).toNat : Int) < (256 : Int)))]
 (escape_Put.l3 K n s0 t6 (IntKind.wrap .i64 (t7 + (1 : Int))) (k3 ++ [UInt8.ofNat (Int.toNat ((List.getD s0 (Int.toNat t7) 0).toNat : Int))]))))))))
 else
 (some k3)) : Option (List UInt8)) := by kernel_rfl
theorem escape_Put.tbOk (K : Nat) : TbOk Try.prog (escape_Put.tb K) := by
 intro e he
 simp only [escape_Put.tb, List.mem_cons, List.not_mem_nil, or_false] at he
theorem escape_Put.itsOk : ItbOk Try.prog escape_Put.its := by
 intro e he
 simp only [escape_Put.its, List.mem_cons, List.not_mem_nil, or_false] at he
theorem escape_Put.ok (K : Nat) : PureC Try.prog 31 ⟨[.str], [.str], escape_Put.f K⟩ :=
 fn_sound (itOk _ _) (E := escape_Put.E K) (full_ok tys_ok escape_Put.itsOk (escape_Put.tbOk K) par_ok bld_ok bty_ok) mixed Try.func31 (c := escape_Put.code) (by kernel_rfl) (by kernel_rfl) (by decide) (by kernel_rfl)
noncomputable def escape_Read.tb (K : Nat) : Tb := []
noncomputable def escape_Read.its : Itb := []
noncomputable def escape_Read.code : Code := (Try.f35.body).getD .skip
noncomputable def escape_Read.nm : Nat → NormSpec := lookN [(3, ⟨[(0, (.data .str)), (4, .raw), (5, (.data (.int .i64)))], [], [4]⟩)]
noncomputable def escape_Read.pre : Nat → Option NormSpec := lookP []
noncomputable def escape_Read.E (K : Nat) : Env := ⟨lookR tys, bty, fullCall escape_Read.its (escape_Read.tb K) bids⟩
noncomputable def escape_Read.ret (K : Nat) : St → Option (resT [.str, .bool]).den := retA (escape_Read.E K) [.str, .bool] [(.tmp 2), (.tmp 3)]
noncomputable def escape_Read.C (K : Nat) : CEnv (resT [.str, .bool]).den := ⟨escape_Read.E K, 42, K, escape_Read.nm, escape_Read.ret K, [], fun _ => false, escape_Read.pre, lookG []⟩
noncomputable def escape_Read.f (K : Nat) (x : (prodT [.str]).den) : Option (resT [.str, .bool]).den := exec escape_Read.code (escape_Read.C K) (escape_Read.ret K) (init [.str] x)
noncomputable def escape_Read.m3 (s0 : (List UInt8)) (i5 : Int) (k4 : (List UInt8)) : St := mkSt [(0, (.d .str (s0 : (List UInt8)))), (4, (.ptr 4 0)), (5, (.d (.int .i64) (i5 : Int)))] [(4, (.bld k4))]
noncomputable def escape_Read.r3 (K : Nat)  (n : Nat) : St → Option ((List UInt8) × Bool × Unit) := loopAt [.r, .r, .l, .r, .b] escape_Read.code (escape_Read.C K) (escape_Read.ret K) [] n
noncomputable def escape_Read.l3 (K : Nat)  (n : Nat) (s0 : (List UInt8)) (i5 : Int) (k4 : (List UInt8)) : Option ((List UInt8) × Bool × Unit) := escape_Read.r3 K n (escape_Read.m3 s0 i5 k4)
theorem escape_Read.eq (K : Nat) (s0 : (List UInt8)) : escape_Read.f K (s0, ()) =
 ((escape_Read.l3 K K s0 (0 : Int) ([] : List UInt8)) : Option ((List UInt8) × Bool × Unit)) := by kernel_rfl
theorem escape_Read.l3_succ (K : Nat)  (n : Nat) (s0 : (List UInt8)) (i5 : Int) (k4 : (List UInt8)) : escape_Read.l3 K (n + 1) s0 i5 k4 =
 ((bif (decide (i5 < (List.length s0 : Int))) then
 (chks [(decide ((0 : Int) ≤ i5)), (decide (i5 < (List.length s0 : Int)))]
 (bif (decide (((List.getD s0 (Int.toNat i5) 0).toNat : Int) = (92 : Int))) then
 (bif (decide ((IntKind.wrap .i64 (i5 + (1 : Int))) = (List.length s0 : Int))) then
 (some (([] : List UInt8), false, ()))
 else
 (chks [(decide ((0 : Int) ≤ (IntKind.wrap .i64 (i5 + (1 : Int))))), (decide ((IntKind.wrap .i64 (i5 + (1 : Int))) < (List.length s0 : Int)))]
 (bif (decide (((List.getD s0 (Int.toNat (IntKind.wrap .i64 (i5 + (1 : Int)))) 0).toNat : Int) = (115 : Int))) then
 (chks [(bldOk k4 [0])]
 (escape_Read.l3 K n s0 (IntKind.wrap .i64 ((IntKind.wrap .i64 (i5 + (1 : Int))) + (1 : Int))) (k4 ++ [UInt8.ofNat (Int.toNat (32 : Int))])))
 else
 (bif (decide (((List.getD s0 (Int.toNat (IntKind.wrap .i64 (i5 + (1 : Int)))) 0).toNat : Int) = (110 : Int))) then
 (chks [(bldOk k4 [0])]
 (escape_Read.l3 K n s0 (IntKind.wrap .i64 ((IntKind.wrap .i64 (i5 + (1 : Int))) + (1 : Int))) (k4 ++ [UInt8.ofNat (Int.toNat (10 : Int))])))
 else
 (bif (decide (((List.getD s0 (Int.toNat (IntKind.wrap .i64 (i5 + (1 : Int)))) 0).toNat : Int) = (92 : Int))) then
 (chks [(bldOk k4 [0]), (decide ((0 : Int) ≤ ((List.getD s0 (Int.toNat i5) 0).toNat : Int))), (decide (((List.getD s0 (Int.toNat i5) 0).toNat : Int) < (256 : Int)))]
 (escape_Read.l3 K n s0 (IntKind.wrap .i64 ((IntKind.wrap .i64 (i5 + (1 : Int))) + (1 : Int))) (k4 ++ [UInt8.ofNat (Int.toNat ((List.getD s0 (Int.toNat i5) 0).toNat : Int))])))
 else
 (some (([] : List UInt8), false, ())))))))
 else
 (bif (decide (((List.getD s0 (Int.toNat i5) 0).toNat : Int) = (32 : Int))) then
 (some (([] : List UInt8), false, ()))
 else
 (bif (decide (((List.getD s0 (Int.toNat i5) 0).toNat : Int) = (10 : Int))) then
 (some (([] : List UInt8), false, ()))
 else
 (chks [(bldOk k4 [0]), (decide ((0 : Int) ≤ ((List.getD s0 (Int.toNat i5) 0).toNat : Int))), (decide (((List.getD s0 (Int.toNat i5) 0).toNat : Int) < (256 : Int)))]
 (escape_Read.l3 K n s0 (IntKind.wrap .i64 (i5 + (1 : Int))) (k4 ++ [UInt8.ofNat (Int.toNat ((List.getD s0 (Int.toNat i5) 0).toNat : Int))])))))))
 else
 (some (k4, true, ()))) : Option ((List UInt8) × Bool × Unit)) := by kernel_rfl
theorem escape_Read.tbOk (K : Nat) : TbOk Try.prog (escape_Read.tb K) := by
 intro e he
 simp only [escape_Read.tb, List.mem_cons, List.not_mem_nil, or_false] at he
theorem escape_Read.itsOk : ItbOk Try.prog escape_Read.its := by
 intro e he
 simp only [escape_Read.its, List.mem_cons, List.not_mem_nil, or_false] at he
theorem escape_Read.ok (K : Nat) : PureC Try.prog 35 ⟨[.str], [.str, .bool], escape_Read.f K⟩ :=
 fn_sound (itOk _ _) (E := escape_Read.E K) (full_ok tys_ok escape_Read.itsOk (escape_Read.tbOk K) par_ok bld_ok bty_ok) mixed Try.func35 (c := escape_Read.code) (by kernel_rfl) (by kernel_rfl) (by decide) (by kernel_rfl)
noncomputable def ammoniteref10_Unescape.tb (K : Nat) : Tb := []
noncomputable def ammoniteref10_Unescape.its : Itb := []
noncomputable def ammoniteref10_Unescape.code : Code := (Try.f48.body).getD .skip
noncomputable def ammoniteref10_Unescape.nm : Nat → NormSpec := lookN [(3, ⟨[(0, (.data .str)), (4, (.data .str)), (5, (.data (.int .i64)))], [], []⟩)]
noncomputable def ammoniteref10_Unescape.pre : Nat → Option NormSpec := lookP []
noncomputable def ammoniteref10_Unescape.E (K : Nat) : Env := ⟨lookR tys, bty, fullCall ammoniteref10_Unescape.its (ammoniteref10_Unescape.tb K) bids⟩
noncomputable def ammoniteref10_Unescape.ret (K : Nat) : St → Option (resT [.str, .bool]).den := retA (ammoniteref10_Unescape.E K) [.str, .bool] [(.tmp 2), (.tmp 3)]
noncomputable def ammoniteref10_Unescape.C (K : Nat) : CEnv (resT [.str, .bool]).den := ⟨ammoniteref10_Unescape.E K, 53, K, ammoniteref10_Unescape.nm, ammoniteref10_Unescape.ret K, [], fun _ => false, ammoniteref10_Unescape.pre, lookG []⟩
noncomputable def ammoniteref10_Unescape.f (K : Nat) (x : (prodT [.str]).den) : Option (resT [.str, .bool]).den := exec ammoniteref10_Unescape.code (ammoniteref10_Unescape.C K) (ammoniteref10_Unescape.ret K) (init [.str] x)
noncomputable def ammoniteref10_Unescape.m3 (s0 : (List UInt8)) (out4 : (List UInt8)) (i5 : Int) : St := mkSt [(0, (.d .str (s0 : (List UInt8)))), (4, (.d .str (out4 : (List UInt8)))), (5, (.d (.int .i64) (i5 : Int)))] []
noncomputable def ammoniteref10_Unescape.r3 (K : Nat)  (n : Nat) : St → Option ((List UInt8) × Bool × Unit) := loopAt [.r, .r, .l, .r, .b] ammoniteref10_Unescape.code (ammoniteref10_Unescape.C K) (ammoniteref10_Unescape.ret K) [] n
noncomputable def ammoniteref10_Unescape.l3 (K : Nat)  (n : Nat) (s0 : (List UInt8)) (out4 : (List UInt8)) (i5 : Int) : Option ((List UInt8) × Bool × Unit) := ammoniteref10_Unescape.r3 K n (ammoniteref10_Unescape.m3 s0 out4 i5)
theorem ammoniteref10_Unescape.eq (K : Nat) (s0 : (List UInt8)) : ammoniteref10_Unescape.f K (s0, ()) =
 ((ammoniteref10_Unescape.l3 K K s0 ([] : List UInt8) (0 : Int)) : Option ((List UInt8) × Bool × Unit)) := by kernel_rfl
theorem ammoniteref10_Unescape.l3_succ (K : Nat)  (n : Nat) (s0 : (List UInt8)) (out4 : (List UInt8)) (i5 : Int) : ammoniteref10_Unescape.l3 K (n + 1) s0 out4 i5 =
 ((bif (decide (i5 < (List.length s0 : Int))) then
 (chks [(decide ((0 : Int) ≤ i5)), (decide (i5 < (List.length s0 : Int)))]
 (bif (decide (((List.getD s0 (Int.toNat i5) 0).toNat : Int) = (32 : Int))) then
 (some (([] : List UInt8), false, ()))
 else
 (bif (decide (((List.getD s0 (Int.toNat i5) 0).toNat : Int) = (10 : Int))) then
 (some (([] : List UInt8), false, ()))
 else
 (bif (!(decide (((List.getD s0 (Int.toNat i5) 0).toNat : Int) = (92 : Int)))) then
 (chks [(decide ((0 : Int) ≤ (IntKind.wrap .i64 (i5 + (1 : Int))))), (decide ((IntKind.wrap .i64 (i5 + (1 : Int))) ≤ (List.length s0 : Int))), (decide ((0 : Int) ≤ i5)), (decide (i5 ≤ (IntKind.wrap .i64 (i5 + (1 : Int)))))]
 (chks [(catOk out4 (cutL s0 (some i5) (some (IntKind.wrap .i64 (i5 + (1 : Int))))))]
 (ammoniteref10_Unescape.l3 K n s0 (out4 ++ (cutL s0 (some i5) (some (IntKind.wrap .i64 (i5 + (1 : Int)))))) (IntKind.wrap .i64 (i5 + (1 : Int))))))
 else
 (bif (decide ((List.length s0 : Int) ≤ (IntKind.wrap .i64 (i5 + (1 : Int))))) then
 (some (([] : List UInt8), false, ()))
 else
 (chks [(decide ((0 : Int) ≤ (IntKind.wrap .i64 (i5 + (1 : Int))))), (decide ((IntKind.wrap .i64 (i5 + (1 : Int))) < (List.length s0 : Int)))]
 (bif (decide (((List.getD s0 (Int.toNat (IntKind.wrap .i64 (i5 + (1 : Int)))) 0).toNat : Int) = (115 : Int))) then
 (chks [(catOk out4 ([32] : List UInt8))]
 (ammoniteref10_Unescape.l3 K n s0 (out4 ++ ([32] : List UInt8)) (IntKind.wrap .i64 ((IntKind.wrap .i64 (i5 + (1 : Int))) + (1 : Int)))))
 else
 (bif (decide (((List.getD s0 (Int.toNat (IntKind.wrap .i64 (i5 + (1 : Int)))) 0).toNat : Int) = (110 : Int))) then
 (chks [(catOk out4 ([10] : List UInt8))]
 (ammoniteref10_Unescape.l3 K n s0 (out4 ++ ([10] : List UInt8)) (IntKind.wrap .i64 ((IntKind.wrap .i64 (i5 + (1 : Int))) + (1 : Int)))))
 else
 (bif (decide (((List.getD s0 (Int.toNat (IntKind.wrap .i64 (i5 + (1 : Int)))) 0).toNat : Int) = (92 : Int))) then
 (chks [(catOk out4 ([92] : List UInt8))]
 (ammoniteref10_Unescape.l3 K n s0 (out4 ++ ([92] : List UInt8)) (IntKind.wrap .i64 ((IntKind.wrap .i64 (i5 + (1 : Int))) + (1 : Int)))))
 else
 (some (([] : List UInt8), false, ())))))))))))
 else
 (some (out4, true, ()))) : Option ((List UInt8) × Bool × Unit)) := by kernel_rfl
theorem ammoniteref10_Unescape.tbOk (K : Nat) : TbOk Try.prog (ammoniteref10_Unescape.tb K) := by
 intro e he
 simp only [ammoniteref10_Unescape.tb, List.mem_cons, List.not_mem_nil, or_false] at he
theorem ammoniteref10_Unescape.itsOk : ItbOk Try.prog ammoniteref10_Unescape.its := by
 intro e he
 simp only [ammoniteref10_Unescape.its, List.mem_cons, List.not_mem_nil, or_false] at he
theorem ammoniteref10_Unescape.ok (K : Nat) : PureC Try.prog 48 ⟨[.str], [.str, .bool], ammoniteref10_Unescape.f K⟩ :=
 fn_sound (itOk _ _) (E := ammoniteref10_Unescape.E K) (full_ok tys_ok ammoniteref10_Unescape.itsOk (ammoniteref10_Unescape.tbOk K) par_ok bld_ok bty_ok) mixed Try.func48 (c := ammoniteref10_Unescape.code) (by kernel_rfl) (by kernel_rfl) (by decide) (by kernel_rfl)
noncomputable def checkin_TagCards.tb (K : Nat) : Tb := [(31, ⟨[.str], [.str], escape_Put.f K⟩)]
noncomputable def checkin_TagCards.its : Itb := []
noncomputable def checkin_TagCards.code : Code := (Try.f19.body).getD .skip
noncomputable def checkin_TagCards.nm : Nat → NormSpec := lookN [(3, ⟨[(3, (.vec T49)), (7, (.data (.slice T42))), (8, (.data (.int .i64))), (9, (.data (.int .i64)))], [], []⟩)]
noncomputable def checkin_TagCards.pre : Nat → Option NormSpec := lookP [(8, ⟨[(3, (.vec T49)), (6, (.vec .str)), (7, (.data (.slice T42))), (8, (.data (.int .i64))), (9, (.data (.int .i64)))], [], []⟩)]
noncomputable def checkin_TagCards.E (K : Nat) : Env := ⟨lookR tys, bty, fullCall checkin_TagCards.its (checkin_TagCards.tb K) bids⟩
noncomputable def checkin_TagCards.ret (K : Nat) : St → Option (resT [(.slice T49)]).den := retA (checkin_TagCards.E K) [(.slice T49)] [(.tmp 2)]
noncomputable def checkin_TagCards.C (K : Nat) : CEnv (resT [(.slice T49)]).den := ⟨checkin_TagCards.E K, 39, K, checkin_TagCards.nm, checkin_TagCards.ret K, [], fun _ => false, checkin_TagCards.pre, lookG [(8, 0)]⟩
noncomputable def checkin_TagCards.f (K : Nat) (x : (prodT [(.slice T42)]).den) : Option (resT [(.slice T49)]).den := exec checkin_TagCards.code (checkin_TagCards.C K) (checkin_TagCards.ret K) (init [(.slice T42)] x)
noncomputable def checkin_TagCards.m3 (out3 : (List D49)) (t7 : (List D42)) (t8 : Int) (t9 : Int) : St := mkSt [(3, (.vs 3 0 T49 (out3 : List D49))), (7, (.d (.slice T42) (t7 : (List D42)))), (8, (.d (.int .i64) (t8 : Int))), (9, (.d (.int .i64) (t9 : Int)))] [(3, (.vec T49 0))]
noncomputable def checkin_TagCards.r3 (K : Nat)  (n : Nat) : St → Option (List D49) := loopAt [.r, .r, .l, .r, .b] checkin_TagCards.code (checkin_TagCards.C K) (checkin_TagCards.ret K) [] n
noncomputable def checkin_TagCards.l3 (K : Nat)  (n : Nat) (out3 : (List D49)) (t7 : (List D42)) (t8 : Int) (t9 : Int) : Option (List D49) := checkin_TagCards.r3 K n (checkin_TagCards.m3 out3 t7 t8 t9)
noncomputable def checkin_TagCards.mj8 (out3 : (List D49)) (args6 : (List (List UInt8))) (t7 : (List D42)) (t8 : Int) (t9 : Int) : St := mkSt [(3, (.vs 3 0 T49 (out3 : List D49))), (6, (.vs 6 0 .str (args6 : List (List UInt8)))), (7, (.d (.slice T42) (t7 : (List D42)))), (8, (.d (.int .i64) (t8 : Int))), (9, (.d (.int .i64) (t9 : Int)))] [(3, (.vec T49 0)), (6, (.vec .str 0))]
noncomputable def checkin_TagCards.j8 (K : Nat) (ρ3 : St → Option (List D49)) (out3 : (List D49)) (args6 : (List (List UInt8))) (t7 : (List D42)) (t8 : Int) (t9 : Int) : Option (List D49) := pointAt [.r, .r, .l, .r, .b, .o, .r, .r, .l, .b, .r, .r, .r] checkin_TagCards.code (checkin_TagCards.C K) (checkin_TagCards.ret K) [ρ3] (checkin_TagCards.mj8 out3 args6 t7 t8 t9)
theorem checkin_TagCards.eq (K : Nat) (l0 : (List D42)) : checkin_TagCards.f K (l0, ()) =
 ((checkin_TagCards.l3 K K ([] : (List D49)) l0 (List.length l0 : Int) (0 : Int)) : Option (List D49)) := by kernel_rfl
theorem checkin_TagCards.l3_succ (K : Nat)  (n : Nat) (out3 : (List D49)) (t7 : (List D42)) (t8 : Int) (t9 : Int) : checkin_TagCards.l3 K (n + 1) out3 t7 t8 t9 =
 ((bif (decide (t9 < t8)) then
 (chks [(decide ((0 : Int) ≤ t9)), (decide (t9 < (List.length t7 : Int)))]
 (chks [(catOk (textOf ([(List.getD t7 (Int.toNat t9) (DTy.dflt T42)).1] : List Int)) (List.getD t7 (Int.toNat t9) (DTy.dflt T42)).2.1)]
 (bif (!(decide ((List.getD t7 (Int.toNat t9) (DTy.dflt T42)).2.2.2.1 = ([] : List UInt8)))) then
 ((escape_Put.f K ((List.getD t7 (Int.toNat t9) (DTy.dflt T42)).2.2.2.1, ())).bind fun v_1 =>
 (chks [(growOk (List.length ([((textOf ([(List.getD t7 (Int.toNat t9) (DTy.dflt T42)).1] : List Int)) ++ (List.getD t7 (Int.toNat t9) (DTy.dflt T42)).2.1), (List.getD t7 (Int.toNat t9) (DTy.dflt T42)).2.2.1] : List (List UInt8))) (List.length ([v_1] : List (List UInt8))) 16)]
 (checkin_TagCards.j8 K (checkin_TagCards.r3 K n) out3 (([((textOf ([(List.getD t7 (Int.toNat t9) (DTy.dflt T42)).1] : List Int)) ++ (List.getD t7 (Int.toNat t9) (DTy.dflt T42)).2.1), (List.getD t7 (Int.toNat t9) (DTy.dflt T42)).2.2.1] : List (List UInt8)) ++ ([v_1] : List (List UInt8))) t7 t8 t9)))
 else
 (checkin_TagCards.j8 K (checkin_TagCards.r3 K n) out3 ([((textOf ([(List.getD t7 (Int.toNat t9) (DTy.dflt T42)).1] : List Int)) ++ (List.getD t7 (Int.toNat t9) (DTy.dflt T42)).2.1), (List.getD t7 (Int.toNat t9) (DTy.dflt T42)).2.2.1] : List (List UInt8)) t7 t8 t9))))
 else
 (some out3)) : Option (List D49)) := by kernel_rfl
theorem checkin_TagCards.j8_eq {K : Nat} (hK : 1000 ≤ K) (ρ3 : St → Option (List D49)) (out3 : (List D49)) (args6 : (List (List UInt8))) (t7 : (List D42)) (t8 : Int) (t9 : Int) : checkin_TagCards.j8 K ρ3 out3 args6 t7 t8 t9 =
 ((chks [(growOk (List.length out3) (List.length ([((84 : Int), (args6, ()))] : List D49)) 32)]
 (ρ3 (checkin_TagCards.m3 (out3 ++ ([((84 : Int), (args6, ()))] : List D49)) t7 t8 (IntKind.wrap .i64 (t9 + (1 : Int)))))) : Option (List D49)) := by
 obtain ⟨K, rfl⟩ : ∃ m, K = m + 1 := ⟨K - 1, by omega⟩
 kernel_rfl
theorem checkin_TagCards.tbOk (K : Nat) : TbOk Try.prog (checkin_TagCards.tb K) := by
 intro e he
 simp only [checkin_TagCards.tb, List.mem_cons, List.not_mem_nil, or_false] at he
 rcases he with rfl
 · exact ⟨escape_Put.ok K, enters_of Try.func31 (by kernel_rfl) rfl⟩
theorem checkin_TagCards.itsOk : ItbOk Try.prog checkin_TagCards.its := by
 intro e he
 simp only [checkin_TagCards.its, List.mem_cons, List.not_mem_nil, or_false] at he
theorem checkin_TagCards.ok (K : Nat) : PureC Try.prog 19 ⟨[(.slice T42)], [(.slice T49)], checkin_TagCards.f K⟩ :=
 fn_sound (itOk _ _) (E := checkin_TagCards.E K) (full_ok tys_ok checkin_TagCards.itsOk (checkin_TagCards.tbOk K) par_ok bld_ok bty_ok) mixed Try.func19 (c := checkin_TagCards.code) (by kernel_rfl) (by kernel_rfl) (by decide) (by kernel_rfl)
noncomputable def checkin_ReadTags.tb (K : Nat) : Tb := [(35, ⟨[.str], [.str, .bool], escape_Read.f K⟩)]
noncomputable def checkin_ReadTags.its : Itb := [(38, ⟨[(.slice T49), (.int .u8)], (.prod (.int .i64) (.prod (.slice .str) .unit)), card_Of.L⟩)]
noncomputable def checkin_ReadTags.code : Code := (Try.f18.body).getD .skip
noncomputable def checkin_ReadTags.nm : Nat → NormSpec := lookN [(3, ⟨[(2, .raw), (3, .raw), (4, .raw)], [(2, [.raw]), (3, [(.data .bool)]), (4, [(.vec T42)])], []⟩)]
noncomputable def checkin_ReadTags.pre : Nat → Option NormSpec := lookP [(12, ⟨[(2, .raw), (3, .raw), (4, .raw), (7, .raw)], [(2, [.raw]), (3, [(.data .bool)]), (4, [(.vec T42)]), (7, [(.data (.int .u8)), (.data .str), (.data .str), (.data .str)])], []⟩)]
noncomputable def checkin_ReadTags.E (K : Nat) : Env := ⟨lookR tys, bty, fullCall checkin_ReadTags.its (checkin_ReadTags.tb K) bids⟩
noncomputable def checkin_ReadTags.ret (K : Nat) : St → Option (resT [(.slice T42), .bool]).den := retA (checkin_ReadTags.E K) [(.slice T42), .bool] [(.cell 2 25), (.cell 3 4)]
noncomputable def checkin_ReadTags.C (K : Nat) : CEnv (resT [(.slice T42), .bool]).den := ⟨checkin_ReadTags.E K, 60, K, checkin_ReadTags.nm, checkin_ReadTags.ret K, [], fun _ => false, checkin_ReadTags.pre, lookG [(12, 0)]⟩
noncomputable def checkin_ReadTags.f (K : Nat) (x : (prodT [(.slice T49)]).den) : Option (resT [(.slice T42), .bool]).den := exec checkin_ReadTags.code (checkin_ReadTags.C K) (checkin_ReadTags.ret K) (init [(.slice T49)] x)
noncomputable def checkin_ReadTags.m3 (bt3_0 : Bool) (bout4_0 : (List D42)) : St := mkSt [(2, (.ptr 2 0)), (3, (.ptr 3 0)), (4, (.ptr 4 0))] [(2, (.box [.nils])), (3, (.box [(.d .bool (bt3_0 : Bool))])), (4, (.box [(.vs 10400 0 T42 (bout4_0 : List D42))])), (10400, (.vec T42 0))]
noncomputable def checkin_ReadTags.r3 (K : Nat)  (l : List D49) : St → Option ((List D42) × Bool × Unit) := rangeAt [.r, .r, .l, .r, .b] checkin_ReadTags.code (checkin_ReadTags.C K) (checkin_ReadTags.ret K) [] (.prod (.int .i64) (.prod (.slice .str) .unit)) l
noncomputable def checkin_ReadTags.i3 (K : Nat)  (l : List D49) (bt3_0 : Bool) (bout4_0 : (List D42)) : Option ((List D42) × Bool × Unit) := checkin_ReadTags.r3 K l (checkin_ReadTags.m3 bt3_0 bout4_0)
noncomputable def checkin_ReadTags.mj12 (bt3_0 : Bool) (bout4_0 : (List D42)) (bt7_0 : Int) (bt7_1 : (List UInt8)) (bt7_2 : (List UInt8)) (bt7_3 : (List UInt8)) : St := mkSt [(2, (.ptr 2 0)), (3, (.ptr 3 0)), (4, (.ptr 4 0)), (7, (.ptr 7 0))] [(2, (.box [.nils])), (3, (.box [(.d .bool (bt3_0 : Bool))])), (4, (.box [(.vs 10400 0 T42 (bout4_0 : List D42))])), (10400, (.vec T42 0)), (7, (.box [(.d (.int .u8) (bt7_0 : Int)), (.d .str (bt7_1 : (List UInt8))), (.d .str (bt7_2 : (List UInt8))), (.d .str (bt7_3 : (List UInt8)))]))]
noncomputable def checkin_ReadTags.j12 (K : Nat) (ρ3 : St → Option ((List D42) × Bool × Unit)) (bt3_0 : Bool) (bout4_0 : (List D42)) (bt7_0 : Int) (bt7_1 : (List UInt8)) (bt7_2 : (List UInt8)) (bt7_3 : (List UInt8)) : Option ((List D42) × Bool × Unit) := pointAt [.r, .r, .l, .r, .b, .i, .b, .r, .r, .r] checkin_ReadTags.code (checkin_ReadTags.C K) (checkin_ReadTags.ret K) [ρ3] (checkin_ReadTags.mj12 bt3_0 bout4_0 bt7_0 bt7_1 bt7_2 bt7_3)
theorem checkin_ReadTags.eq (K : Nat) (l0 : (List D49)) : checkin_ReadTags.f K (l0, ()) =
 (((card_Of.L (l0, (84 : Int), ())).bind fun v_1 =>
 (checkin_ReadTags.i3 K v_1 false ([] : (List D42)))) : Option ((List D42) × Bool × Unit)) := by kernel_rfl
theorem checkin_ReadTags.i3_nil (K : Nat)  (bt3_0 : Bool) (bout4_0 : (List D42)) : checkin_ReadTags.i3 K [] bt3_0 bout4_0 =
 ((some (bout4_0, true, ())) : Option ((List D42) × Bool × Unit)) := by kernel_rfl
theorem checkin_ReadTags.i3_cons (K : Nat)  (x3 : D49) (l : List D49) (bt3_0 : Bool) (bout4_0 : (List D42)) : checkin_ReadTags.i3 K (x3 :: l) bt3_0 bout4_0 =
 ((bif (decide ((List.length x3.2.1 : Int) < (2 : Int))) then
 (some (([] : (List D42)), false, ()))
 else
 (bif (decide ((3 : Int) < (List.length x3.2.1 : Int))) then
 (some (([] : (List D42)), false, ()))
 else
 (chks [(decide ((0 : Int) < (List.length x3.2.1 : Int)))]
 (bif (decide ((List.length (List.getD x3.2.1 (Int.toNat (0 : Int)) (DTy.dflt .str)) : Int) < (2 : Int))) then
 (some (([] : (List D42)), false, ()))
 else
 (chks [(decide ((0 : Int) < (List.length x3.2.1 : Int)))]
 (chks [(decide ((0 : Int) < (List.length (List.getD x3.2.1 (Int.toNat (0 : Int)) (DTy.dflt .str)) : Int)))]
 (chks [(decide ((0 : Int) < (List.length x3.2.1 : Int)))]
 (chks [(decide ((1 : Int) ≤ (List.length (List.getD x3.2.1 (Int.toNat (0 : Int)) (DTy.dflt .str)) : Int)))]
 (chks [(decide ((1 : Int) < (List.length x3.2.1 : Int)))]
 (bif (decide ((List.length x3.2.1 : Int) = (3 : Int))) then
 (chks [(decide ((2 : Int) < (List.length x3.2.1 : Int)))]
 ((escape_Read.f K ((List.getD x3.2.1 (Int.toNat (2 : Int)) (DTy.dflt .str)), ())).bind fun v_1 =>
 (bif (!v_1.2.1) then
 (some (([] : (List D42)), false, ()))
 else
 (checkin_ReadTags.j12 K (checkin_ReadTags.r3 K l) bt3_0 bout4_0 ((List.getD (List.getD x3.2.1 (Int.toNat (0 : Int)) (DTy.dflt .str)) (Int.toNat (0 : Int)) 0).toNat : Int) (cutL (List.getD x3.2.1 (Int.toNat (0 : Int)) (DTy.dflt .str)) (some (1 : Int)) none) (List.getD x3.2.1 (Int.toNat (1 : Int)) (DTy.dflt .str)) v_1.1))))
 else
 (checkin_ReadTags.j12 K (checkin_ReadTags.r3 K l) bt3_0 bout4_0 ((List.getD (List.getD x3.2.1 (Int.toNat (0 : Int)) (DTy.dflt .str)) (Int.toNat (0 : Int)) 0).toNat : Int) (cutL (List.getD x3.2.1 (Int.toNat (0 : Int)) (DTy.dflt .str)) (some (1 : Int)) none) (List.getD x3.2.1 (Int.toNat (1 : Int)) (DTy.dflt .str)) []))))))))))) : Option ((List D42) × Bool × Unit)) := by kernel_rfl
theorem checkin_ReadTags.j12_eq {K : Nat} (hK : 1000 ≤ K) (ρ3 : St → Option ((List D42) × Bool × Unit)) (bt3_0 : Bool) (bout4_0 : (List D42)) (bt7_0 : Int) (bt7_1 : (List UInt8)) (bt7_2 : (List UInt8)) (bt7_3 : (List UInt8)) : checkin_ReadTags.j12 K ρ3 bt3_0 bout4_0 bt7_0 bt7_1 bt7_2 bt7_3 =
 ((chks [(growOk (List.length bout4_0) (List.length ([(bt7_0, (bt7_1, (bt7_2, (bt7_3, ()))))] : List D42)) 56)]
 (ρ3 (checkin_ReadTags.m3 bt3_0 (bout4_0 ++ ([(bt7_0, (bt7_1, (bt7_2, (bt7_3, ()))))] : List D42))))) : Option ((List D42) × Bool × Unit)) := by
 obtain ⟨K, rfl⟩ : ∃ m, K = m + 1 := ⟨K - 1, by omega⟩
 kernel_rfl
theorem checkin_ReadTags.tbOk (K : Nat) : TbOk Try.prog (checkin_ReadTags.tb K) := by
 intro e he
 simp only [checkin_ReadTags.tb, List.mem_cons, List.not_mem_nil, or_false] at he
 rcases he with rfl
 · exact ⟨escape_Read.ok K, enters_of Try.func35 (by kernel_rfl) rfl⟩
theorem checkin_ReadTags.itsOk : ItbOk Try.prog checkin_ReadTags.its := by
 intro e he
 simp only [checkin_ReadTags.its, List.mem_cons, List.not_mem_nil, or_false] at he
 rcases he with rfl
 · exact ⟨card_Of.itc, enters_of Try.func38 (by kernel_rfl) rfl⟩
theorem checkin_ReadTags.ok (K : Nat) : PureC Try.prog 18 ⟨[(.slice T49)], [(.slice T42), .bool], checkin_ReadTags.f K⟩ :=
 fn_sound (itOk _ _) (E := checkin_ReadTags.E K) (full_ok tys_ok checkin_ReadTags.itsOk (checkin_ReadTags.tbOk K) par_ok bld_ok bty_ok) mixed Try.func18 (c := checkin_ReadTags.code) (by kernel_rfl) (by kernel_rfl) (by decide) (by kernel_rfl)
noncomputable def checkin_RightTags.tb (K : Nat) : Tb := [(56, ⟨[.str], [.bool], escape_Word.f K⟩), (52, ⟨[.str], [.bool], hash_Is.f K⟩)]
noncomputable def checkin_RightTags.its : Itb := []
noncomputable def checkin_RightTags.code : Code := (Try.f22.body).getD .skip
noncomputable def checkin_RightTags.nm : Nat → NormSpec := lookN [(2, ⟨[(0, (.data .bool)), (1, (.data (.slice T42))), (7, (.data (.slice T42))), (8, (.data (.int .i64))), (9, (.data (.int .i64)))], [], []⟩)]
noncomputable def checkin_RightTags.pre : Nat → Option NormSpec := lookP [(8, ⟨[(0, (.data .bool)), (1, (.data (.slice T42))), (5, (.data (.int .i64))), (6, .raw), (7, (.data (.slice T42))), (8, (.data (.int .i64))), (9, (.data (.int .i64))), (15, (.data (.int .u8)))], [(6, [(.data (.int .u8)), (.data .str), (.data .str), (.data .str)])], []⟩), (11, ⟨[(0, (.data .bool)), (1, (.data (.slice T42))), (5, (.data (.int .i64))), (6, .raw), (7, (.data (.slice T42))), (8, (.data (.int .i64))), (9, (.data (.int .i64)))], [(6, [(.data (.int .u8)), (.data .str), (.data .str), (.data .str)])], []⟩), (13, ⟨[(0, (.data .bool)), (1, (.data (.slice T42))), (5, (.data (.int .i64))), (6, .raw), (7, (.data (.slice T42))), (8, (.data (.int .i64))), (9, (.data (.int .i64)))], [(6, [(.data (.int .u8)), (.data .str), (.data .str), (.data .str)])], []⟩)]
noncomputable def checkin_RightTags.E (K : Nat) : Env := ⟨lookR tys, bty, fullCall checkin_RightTags.its (checkin_RightTags.tb K) bids⟩
noncomputable def checkin_RightTags.ret (K : Nat) : St → Option (resT [.bool]).den := retA (checkin_RightTags.E K) [.bool] [(.tmp 4)]
noncomputable def checkin_RightTags.C (K : Nat) : CEnv (resT [.bool]).den := ⟨checkin_RightTags.E K, 91, K, checkin_RightTags.nm, checkin_RightTags.ret K, [], fun _ => false, checkin_RightTags.pre, lookG [(8, 0), (11, 1), (13, 2)]⟩
noncomputable def checkin_RightTags.f (K : Nat) (x : (prodT [.bool, (.slice T42)]).den) : Option (resT [.bool]).den := exec checkin_RightTags.code (checkin_RightTags.C K) (checkin_RightTags.ret K) (init [.bool, (.slice T42)] x)
noncomputable def checkin_RightTags.m2 (own0 : Bool) (l1 : (List D42)) (t7 : (List D42)) (t8 : Int) (t9 : Int) : St := mkSt [(0, (.d .bool (own0 : Bool))), (1, (.d (.slice T42) (l1 : (List D42)))), (7, (.d (.slice T42) (t7 : (List D42)))), (8, (.d (.int .i64) (t8 : Int))), (9, (.d (.int .i64) (t9 : Int)))] []
noncomputable def checkin_RightTags.r2 (K : Nat)  (n : Nat) : St → Option Bool := loopAt [.r, .l, .r, .b] checkin_RightTags.code (checkin_RightTags.C K) (checkin_RightTags.ret K) [] n
noncomputable def checkin_RightTags.l2 (K : Nat)  (n : Nat) (own0 : Bool) (l1 : (List D42)) (t7 : (List D42)) (t8 : Int) (t9 : Int) : Option Bool := checkin_RightTags.r2 K n (checkin_RightTags.m2 own0 l1 t7 t8 t9)
noncomputable def checkin_RightTags.mj8 (own0 : Bool) (l1 : (List D42)) (i5 : Int) (t7 : (List D42)) (t8 : Int) (t9 : Int) (t15 : Int) (bt6_0 : Int) (bt6_1 : (List UInt8)) (bt6_2 : (List UInt8)) (bt6_3 : (List UInt8)) : St := mkSt [(0, (.d .bool (own0 : Bool))), (1, (.d (.slice T42) (l1 : (List D42)))), (5, (.d (.int .i64) (i5 : Int))), (6, (.ptr 6 0)), (7, (.d (.slice T42) (t7 : (List D42)))), (8, (.d (.int .i64) (t8 : Int))), (9, (.d (.int .i64) (t9 : Int))), (15, (.d (.int .u8) (t15 : Int)))] [(6, (.box [(.d (.int .u8) (bt6_0 : Int)), (.d .str (bt6_1 : (List UInt8))), (.d .str (bt6_2 : (List UInt8))), (.d .str (bt6_3 : (List UInt8)))]))]
noncomputable def checkin_RightTags.j8 (K : Nat) (ρ2 : St → Option Bool) (own0 : Bool) (l1 : (List D42)) (i5 : Int) (t7 : (List D42)) (t8 : Int) (t9 : Int) (t15 : Int) (bt6_0 : Int) (bt6_1 : (List UInt8)) (bt6_2 : (List UInt8)) (bt6_3 : (List UInt8)) : Option Bool := pointAt [.r, .l, .r, .b, .o, .r, .r, .l, .b, .r, .l, .r, .b, .r, .f, .l] checkin_RightTags.code (checkin_RightTags.C K) (checkin_RightTags.ret K) [ρ2] (checkin_RightTags.mj8 own0 l1 i5 t7 t8 t9 t15 bt6_0 bt6_1 bt6_2 bt6_3)
noncomputable def checkin_RightTags.mj11 (own0 : Bool) (l1 : (List D42)) (i5 : Int) (t7 : (List D42)) (t8 : Int) (t9 : Int) (bt6_0 : Int) (bt6_1 : (List UInt8)) (bt6_2 : (List UInt8)) (bt6_3 : (List UInt8)) : St := mkSt [(0, (.d .bool (own0 : Bool))), (1, (.d (.slice T42) (l1 : (List D42)))), (5, (.d (.int .i64) (i5 : Int))), (6, (.ptr 6 0)), (7, (.d (.slice T42) (t7 : (List D42)))), (8, (.d (.int .i64) (t8 : Int))), (9, (.d (.int .i64) (t9 : Int)))] [(6, (.box [(.d (.int .u8) (bt6_0 : Int)), (.d .str (bt6_1 : (List UInt8))), (.d .str (bt6_2 : (List UInt8))), (.d .str (bt6_3 : (List UInt8)))]))]
noncomputable def checkin_RightTags.j11 (K : Nat) (ρ2 : St → Option Bool) (own0 : Bool) (l1 : (List D42)) (i5 : Int) (t7 : (List D42)) (t8 : Int) (t9 : Int) (bt6_0 : Int) (bt6_1 : (List UInt8)) (bt6_2 : (List UInt8)) (bt6_3 : (List UInt8)) : Option Bool := pointAt [.r, .l, .r, .b, .o, .r, .r, .l, .b, .r, .r, .l, .l] checkin_RightTags.code (checkin_RightTags.C K) (checkin_RightTags.ret K) [ρ2] (checkin_RightTags.mj11 own0 l1 i5 t7 t8 t9 bt6_0 bt6_1 bt6_2 bt6_3)
noncomputable def checkin_RightTags.mj13 (own0 : Bool) (l1 : (List D42)) (i5 : Int) (t7 : (List D42)) (t8 : Int) (t9 : Int) (bt6_0 : Int) (bt6_1 : (List UInt8)) (bt6_2 : (List UInt8)) (bt6_3 : (List UInt8)) : St := mkSt [(0, (.d .bool (own0 : Bool))), (1, (.d (.slice T42) (l1 : (List D42)))), (5, (.d (.int .i64) (i5 : Int))), (6, (.ptr 6 0)), (7, (.d (.slice T42) (t7 : (List D42)))), (8, (.d (.int .i64) (t8 : Int))), (9, (.d (.int .i64) (t9 : Int)))] [(6, (.box [(.d (.int .u8) (bt6_0 : Int)), (.d .str (bt6_1 : (List UInt8))), (.d .str (bt6_2 : (List UInt8))), (.d .str (bt6_3 : (List UInt8)))]))]
noncomputable def checkin_RightTags.j13 (K : Nat) (ρ2 : St → Option Bool) (own0 : Bool) (l1 : (List D42)) (i5 : Int) (t7 : (List D42)) (t8 : Int) (t9 : Int) (bt6_0 : Int) (bt6_1 : (List UInt8)) (bt6_2 : (List UInt8)) (bt6_3 : (List UInt8)) : Option Bool := pointAt [.r, .l, .r, .b, .o, .r, .r, .l, .b, .r, .r, .r, .l] checkin_RightTags.code (checkin_RightTags.C K) (checkin_RightTags.ret K) [ρ2] (checkin_RightTags.mj13 own0 l1 i5 t7 t8 t9 bt6_0 bt6_1 bt6_2 bt6_3)
theorem checkin_RightTags.eq (K : Nat) (own0 : Bool) (l1 : (List D42)) : checkin_RightTags.f K (own0, l1, ()) =
 ((checkin_RightTags.l2 K K own0 l1 l1 (List.length l1 : Int) (0 : Int)) : Option Bool) := by kernel_rfl
theorem checkin_RightTags.l2_succ (K : Nat)  (n : Nat) (own0 : Bool) (l1 : (List D42)) (t7 : (List D42)) (t8 : Int) (t9 : Int) : checkin_RightTags.l2 K (n + 1) own0 l1 t7 t8 t9 =
 ((bif (decide (t9 < t8)) then
 (chks [(decide ((0 : Int) ≤ t9)), (decide (t9 < (List.length t7 : Int)))]
 (bif (decide ((List.getD t7 (Int.toNat t9) (DTy.dflt T42)).1 = (43 : Int))) then
 (bif (decide ((List.getD t7 (Int.toNat t9) (DTy.dflt T42)).1 = (43 : Int))) then
 (checkin_RightTags.j11 K (checkin_RightTags.r2 K n) own0 l1 t9 t7 t8 t9 (List.getD t7 (Int.toNat t9) (DTy.dflt T42)).1 (List.getD t7 (Int.toNat t9) (DTy.dflt T42)).2.1 (List.getD t7 (Int.toNat t9) (DTy.dflt T42)).2.2.1 (List.getD t7 (Int.toNat t9) (DTy.dflt T42)).2.2.2.1)
 else
 (checkin_RightTags.j8 K (checkin_RightTags.r2 K n) own0 l1 t9 t7 t8 t9 (List.getD t7 (Int.toNat t9) (DTy.dflt T42)).1 (List.getD t7 (Int.toNat t9) (DTy.dflt T42)).1 (List.getD t7 (Int.toNat t9) (DTy.dflt T42)).2.1 (List.getD t7 (Int.toNat t9) (DTy.dflt T42)).2.2.1 (List.getD t7 (Int.toNat t9) (DTy.dflt T42)).2.2.2.1))
 else
 (bif (decide ((List.getD t7 (Int.toNat t9) (DTy.dflt T42)).1 = (42 : Int))) then
 (checkin_RightTags.j11 K (checkin_RightTags.r2 K n) own0 l1 t9 t7 t8 t9 (List.getD t7 (Int.toNat t9) (DTy.dflt T42)).1 (List.getD t7 (Int.toNat t9) (DTy.dflt T42)).2.1 (List.getD t7 (Int.toNat t9) (DTy.dflt T42)).2.2.1 (List.getD t7 (Int.toNat t9) (DTy.dflt T42)).2.2.2.1)
 else
 (checkin_RightTags.j8 K (checkin_RightTags.r2 K n) own0 l1 t9 t7 t8 t9 (List.getD t7 (Int.toNat t9) (DTy.dflt T42)).1 (List.getD t7 (Int.toNat t9) (DTy.dflt T42)).1 (List.getD t7 (Int.toNat t9) (DTy.dflt T42)).2.1 (List.getD t7 (Int.toNat t9) (DTy.dflt T42)).2.2.1 (List.getD t7 (Int.toNat t9) (DTy.dflt T42)).2.2.2.1))))
 else
 (some (decide ((List.length l1 : Int) ≤ (12 : Int))))) : Option Bool) := by kernel_rfl
theorem checkin_RightTags.j8_eq {K : Nat} (hK : 1000 ≤ K) (ρ2 : St → Option Bool) (own0 : Bool) (l1 : (List D42)) (i5 : Int) (t7 : (List D42)) (t8 : Int) (t9 : Int) (t15 : Int) (bt6_0 : Int) (bt6_1 : (List UInt8)) (bt6_2 : (List UInt8)) (bt6_3 : (List UInt8)) : checkin_RightTags.j8 K ρ2 own0 l1 i5 t7 t8 t9 t15 bt6_0 bt6_1 bt6_2 bt6_3 =
 ((bif (decide (t15 = (45 : Int))) then
 (bif (!(decide (bt6_3 = ([] : List UInt8)))) then
 (some false)
 else
 (checkin_RightTags.j11 K ρ2 own0 l1 i5 t7 t8 t9 bt6_0 bt6_1 bt6_2 bt6_3))
 else
 (some false)) : Option Bool) := by
 obtain ⟨K, rfl⟩ : ∃ m, K = m + 1 := ⟨K - 1, by omega⟩
 kernel_rfl
theorem checkin_RightTags.j11_eq {K : Nat} (hK : 1000 ≤ K) (ρ2 : St → Option Bool) (own0 : Bool) (l1 : (List D42)) (i5 : Int) (t7 : (List D42)) (t8 : Int) (t9 : Int) (bt6_0 : Int) (bt6_1 : (List UInt8)) (bt6_2 : (List UInt8)) (bt6_3 : (List UInt8)) : checkin_RightTags.j11 K ρ2 own0 l1 i5 t7 t8 t9 bt6_0 bt6_1 bt6_2 bt6_3 =
 (((escape_Word.f K (bt6_1, ())).bind fun v_1 =>
 (bif (!v_1) then
 (some false)
 else
 (bif (decide ((12 : Int) < (List.length bt6_3 : Int))) then
 (some false)
 else
 (bif own0 then
 (bif (!(decide (bt6_2 = ([42] : List UInt8)))) then
 (some false)
 else
 (bif (!own0) then
 ((hash_Is.f K (bt6_2, ())).bind fun v_2 =>
 (bif (!v_2) then
 (some false)
 else
 (checkin_RightTags.j13 K ρ2 own0 l1 i5 t7 t8 t9 bt6_0 bt6_1 bt6_2 bt6_3)))
 else
 (checkin_RightTags.j13 K ρ2 own0 l1 i5 t7 t8 t9 bt6_0 bt6_1 bt6_2 bt6_3)))
 else
 (bif (!own0) then
 ((hash_Is.f K (bt6_2, ())).bind fun v_3 =>
 (bif (!v_3) then
 (some false)
 else
 (checkin_RightTags.j13 K ρ2 own0 l1 i5 t7 t8 t9 bt6_0 bt6_1 bt6_2 bt6_3)))
 else
 (checkin_RightTags.j13 K ρ2 own0 l1 i5 t7 t8 t9 bt6_0 bt6_1 bt6_2 bt6_3)))))) : Option Bool) := by
 obtain ⟨K, rfl⟩ : ∃ m, K = m + 2 := ⟨K - 2, by omega⟩
 kernel_rfl
theorem checkin_RightTags.j13_eq {K : Nat} (hK : 1000 ≤ K) (ρ2 : St → Option Bool) (own0 : Bool) (l1 : (List D42)) (i5 : Int) (t7 : (List D42)) (t8 : Int) (t9 : Int) (bt6_0 : Int) (bt6_1 : (List UInt8)) (bt6_2 : (List UInt8)) (bt6_3 : (List UInt8)) : checkin_RightTags.j13 K ρ2 own0 l1 i5 t7 t8 t9 bt6_0 bt6_1 bt6_2 bt6_3 =
 ((bif (decide ((0 : Int) < i5)) then
 (chks [(decide ((0 : Int) ≤ (IntKind.wrap .i64 (i5 - (1 : Int))))), (decide ((IntKind.wrap .i64 (i5 - (1 : Int))) < (List.length l1 : Int)))]
 (bif (!(Op.bytesLess (List.getD l1 (Int.toNat (IntKind.wrap .i64 (i5 - (1 : Int)))) (DTy.dflt T42)).2.1 bt6_1 || decide ((List.getD l1 (Int.toNat (IntKind.wrap .i64 (i5 - (1 : Int)))) (DTy.dflt T42)).2.1 = bt6_1))) then
 (some false)
 else
 (chks [(decide ((0 : Int) ≤ (IntKind.wrap .i64 (i5 - (1 : Int))))), (decide ((IntKind.wrap .i64 (i5 - (1 : Int))) < (List.length l1 : Int)))]
 (bif (decide ((List.getD l1 (Int.toNat (IntKind.wrap .i64 (i5 - (1 : Int)))) (DTy.dflt T42)).2.1 = bt6_1)) then
 (chks [(decide ((0 : Int) ≤ (IntKind.wrap .i64 (i5 - (1 : Int))))), (decide ((IntKind.wrap .i64 (i5 - (1 : Int))) < (List.length l1 : Int)))]
 (bif (!(Op.bytesLess (List.getD l1 (Int.toNat (IntKind.wrap .i64 (i5 - (1 : Int)))) (DTy.dflt T42)).2.2.1 bt6_2)) then
 (some false)
 else
 (ρ2 (checkin_RightTags.m2 own0 l1 t7 t8 (IntKind.wrap .i64 (t9 + (1 : Int)))))))
 else
 (ρ2 (checkin_RightTags.m2 own0 l1 t7 t8 (IntKind.wrap .i64 (t9 + (1 : Int)))))))))
 else
 (ρ2 (checkin_RightTags.m2 own0 l1 t7 t8 (IntKind.wrap .i64 (t9 + (1 : Int)))))) : Option Bool) := by
 obtain ⟨K, rfl⟩ : ∃ m, K = m + 3 := ⟨K - 3, by omega⟩
 kernel_rfl
theorem checkin_RightTags.tbOk (K : Nat) : TbOk Try.prog (checkin_RightTags.tb K) := by
 intro e he
 simp only [checkin_RightTags.tb, List.mem_cons, List.not_mem_nil, or_false] at he
 rcases he with rfl | rfl
 · exact ⟨escape_Word.ok K, enters_of Try.func56 (by kernel_rfl) rfl⟩
 · exact ⟨hash_Is.ok K, enters_of Try.func52 (by kernel_rfl) rfl⟩
theorem checkin_RightTags.itsOk : ItbOk Try.prog checkin_RightTags.its := by
 intro e he
 simp only [checkin_RightTags.its, List.mem_cons, List.not_mem_nil, or_false] at he
theorem checkin_RightTags.ok (K : Nat) : PureC Try.prog 22 ⟨[.bool, (.slice T42)], [.bool], checkin_RightTags.f K⟩ :=
 fn_sound (itOk _ _) (E := checkin_RightTags.E K) (full_ok tys_ok checkin_RightTags.itsOk (checkin_RightTags.tbOk K) par_ok bld_ok bty_ok) mixed Try.func22 (c := checkin_RightTags.code) (by kernel_rfl) (by kernel_rfl) (by decide) (by kernel_rfl)
noncomputable def ammoniteref10_ops.tb (K : Nat) : Tb := [(17, ⟨[.str], [.str], ammoniteref10_Escape.f K⟩)]
noncomputable def ammoniteref10_ops.its : Itb := []
noncomputable def ammoniteref10_ops.code : Code := (Try.f42.body).getD .skip
noncomputable def ammoniteref10_ops.nm : Nat → NormSpec := lookN [(3, ⟨[(3, (.vec T49)), (7, (.data (.slice T42))), (8, (.data (.int .i64))), (9, (.data (.int .i64)))], [], []⟩)]
noncomputable def ammoniteref10_ops.pre : Nat → Option NormSpec := lookP [(8, ⟨[(3, (.vec T49)), (6, (.vec .str)), (7, (.data (.slice T42))), (8, (.data (.int .i64))), (9, (.data (.int .i64)))], [], []⟩)]
noncomputable def ammoniteref10_ops.E (K : Nat) : Env := ⟨lookR tys, bty, fullCall ammoniteref10_ops.its (ammoniteref10_ops.tb K) bids⟩
noncomputable def ammoniteref10_ops.ret (K : Nat) : St → Option (resT [(.slice T49)]).den := retA (ammoniteref10_ops.E K) [(.slice T49)] [(.tmp 2)]
noncomputable def ammoniteref10_ops.C (K : Nat) : CEnv (resT [(.slice T49)]).den := ⟨ammoniteref10_ops.E K, 39, K, ammoniteref10_ops.nm, ammoniteref10_ops.ret K, [], fun _ => false, ammoniteref10_ops.pre, lookG [(8, 0)]⟩
noncomputable def ammoniteref10_ops.f (K : Nat) (x : (prodT [(.slice T42)]).den) : Option (resT [(.slice T49)]).den := exec ammoniteref10_ops.code (ammoniteref10_ops.C K) (ammoniteref10_ops.ret K) (init [(.slice T42)] x)
noncomputable def ammoniteref10_ops.m3 (out3 : (List D49)) (t7 : (List D42)) (t8 : Int) (t9 : Int) : St := mkSt [(3, (.vs 3 0 T49 (out3 : List D49))), (7, (.d (.slice T42) (t7 : (List D42)))), (8, (.d (.int .i64) (t8 : Int))), (9, (.d (.int .i64) (t9 : Int)))] [(3, (.vec T49 0))]
noncomputable def ammoniteref10_ops.r3 (K : Nat)  (n : Nat) : St → Option (List D49) := loopAt [.r, .r, .l, .r, .b] ammoniteref10_ops.code (ammoniteref10_ops.C K) (ammoniteref10_ops.ret K) [] n
noncomputable def ammoniteref10_ops.l3 (K : Nat)  (n : Nat) (out3 : (List D49)) (t7 : (List D42)) (t8 : Int) (t9 : Int) : Option (List D49) := ammoniteref10_ops.r3 K n (ammoniteref10_ops.m3 out3 t7 t8 t9)
noncomputable def ammoniteref10_ops.mj8 (out3 : (List D49)) (a6 : (List (List UInt8))) (t7 : (List D42)) (t8 : Int) (t9 : Int) : St := mkSt [(3, (.vs 3 0 T49 (out3 : List D49))), (6, (.vs 6 0 .str (a6 : List (List UInt8)))), (7, (.d (.slice T42) (t7 : (List D42)))), (8, (.d (.int .i64) (t8 : Int))), (9, (.d (.int .i64) (t9 : Int)))] [(3, (.vec T49 0)), (6, (.vec .str 0))]
noncomputable def ammoniteref10_ops.j8 (K : Nat) (ρ3 : St → Option (List D49)) (out3 : (List D49)) (a6 : (List (List UInt8))) (t7 : (List D42)) (t8 : Int) (t9 : Int) : Option (List D49) := pointAt [.r, .r, .l, .r, .b, .o, .r, .r, .l, .b, .r, .r, .r] ammoniteref10_ops.code (ammoniteref10_ops.C K) (ammoniteref10_ops.ret K) [ρ3] (ammoniteref10_ops.mj8 out3 a6 t7 t8 t9)
theorem ammoniteref10_ops.eq (K : Nat) (l0 : (List D42)) : ammoniteref10_ops.f K (l0, ()) =
 ((ammoniteref10_ops.l3 K K ([] : (List D49)) l0 (List.length l0 : Int) (0 : Int)) : Option (List D49)) := by kernel_rfl
theorem ammoniteref10_ops.l3_succ (K : Nat)  (n : Nat) (out3 : (List D49)) (t7 : (List D42)) (t8 : Int) (t9 : Int) : ammoniteref10_ops.l3 K (n + 1) out3 t7 t8 t9 =
 ((bif (decide (t9 < t8)) then
 (chks [(decide ((0 : Int) ≤ t9)), (decide (t9 < (List.length t7 : Int)))]
 (chks [(catOk (textOf ([(List.getD t7 (Int.toNat t9) (DTy.dflt T42)).1] : List Int)) (List.getD t7 (Int.toNat t9) (DTy.dflt T42)).2.1)]
 (bif (!(decide ((List.getD t7 (Int.toNat t9) (DTy.dflt T42)).2.2.2.1 = ([] : List UInt8)))) then
 ((ammoniteref10_Escape.f K ((List.getD t7 (Int.toNat t9) (DTy.dflt T42)).2.2.2.1, ())).bind fun v_1 =>
 (chks [(growOk (List.length ([((textOf ([(List.getD t7 (Int.toNat t9) (DTy.dflt T42)).1] : List Int)) ++ (List.getD t7 (Int.toNat t9) (DTy.dflt T42)).2.1), (List.getD t7 (Int.toNat t9) (DTy.dflt T42)).2.2.1] : List (List UInt8))) (List.length ([v_1] : List (List UInt8))) 16)]
 (ammoniteref10_ops.j8 K (ammoniteref10_ops.r3 K n) out3 (([((textOf ([(List.getD t7 (Int.toNat t9) (DTy.dflt T42)).1] : List Int)) ++ (List.getD t7 (Int.toNat t9) (DTy.dflt T42)).2.1), (List.getD t7 (Int.toNat t9) (DTy.dflt T42)).2.2.1] : List (List UInt8)) ++ ([v_1] : List (List UInt8))) t7 t8 t9)))
 else
 (ammoniteref10_ops.j8 K (ammoniteref10_ops.r3 K n) out3 ([((textOf ([(List.getD t7 (Int.toNat t9) (DTy.dflt T42)).1] : List Int)) ++ (List.getD t7 (Int.toNat t9) (DTy.dflt T42)).2.1), (List.getD t7 (Int.toNat t9) (DTy.dflt T42)).2.2.1] : List (List UInt8)) t7 t8 t9))))
 else
 (some out3)) : Option (List D49)) := by kernel_rfl
theorem ammoniteref10_ops.j8_eq {K : Nat} (hK : 1000 ≤ K) (ρ3 : St → Option (List D49)) (out3 : (List D49)) (a6 : (List (List UInt8))) (t7 : (List D42)) (t8 : Int) (t9 : Int) : ammoniteref10_ops.j8 K ρ3 out3 a6 t7 t8 t9 =
 ((chks [(growOk (List.length out3) (List.length ([((84 : Int), (a6, ()))] : List D49)) 32)]
 (ρ3 (ammoniteref10_ops.m3 (out3 ++ ([((84 : Int), (a6, ()))] : List D49)) t7 t8 (IntKind.wrap .i64 (t9 + (1 : Int)))))) : Option (List D49)) := by
 obtain ⟨K, rfl⟩ : ∃ m, K = m + 1 := ⟨K - 1, by omega⟩
 kernel_rfl
theorem ammoniteref10_ops.tbOk (K : Nat) : TbOk Try.prog (ammoniteref10_ops.tb K) := by
 intro e he
 simp only [ammoniteref10_ops.tb, List.mem_cons, List.not_mem_nil, or_false] at he
 rcases he with rfl
 · exact ⟨ammoniteref10_Escape.ok K, enters_of Try.func17 (by kernel_rfl) rfl⟩
theorem ammoniteref10_ops.itsOk : ItbOk Try.prog ammoniteref10_ops.its := by
 intro e he
 simp only [ammoniteref10_ops.its, List.mem_cons, List.not_mem_nil, or_false] at he
theorem ammoniteref10_ops.ok (K : Nat) : PureC Try.prog 42 ⟨[(.slice T42)], [(.slice T49)], ammoniteref10_ops.f K⟩ :=
 fn_sound (itOk _ _) (E := ammoniteref10_ops.E K) (full_ok tys_ok ammoniteref10_ops.itsOk (ammoniteref10_ops.tbOk K) par_ok bld_ok bty_ok) mixed Try.func42 (c := ammoniteref10_ops.code) (by kernel_rfl) (by kernel_rfl) (by decide) (by kernel_rfl)
noncomputable def ammoniteref10_readOps.tb (K : Nat) : Tb := [(48, ⟨[.str], [.str, .bool], ammoniteref10_Unescape.f K⟩)]
noncomputable def ammoniteref10_readOps.its : Itb := []
noncomputable def ammoniteref10_readOps.code : Code := (Try.f47.body).getD .skip
noncomputable def ammoniteref10_readOps.nm : Nat → NormSpec := lookN [(3, ⟨[(4, (.vec T42)), (10, (.data (.slice T49))), (11, (.data (.int .i64))), (12, (.data (.int .i64)))], [], []⟩)]
noncomputable def ammoniteref10_readOps.pre : Nat → Option NormSpec := lookP [(14, ⟨[(4, (.vec T42)), (7, .raw), (10, (.data (.slice T49))), (11, (.data (.int .i64))), (12, (.data (.int .i64)))], [(7, [(.data (.int .u8)), (.data .str), (.data .str), (.data .str)])], []⟩)]
noncomputable def ammoniteref10_readOps.E (K : Nat) : Env := ⟨lookR tys, bty, fullCall ammoniteref10_readOps.its (ammoniteref10_readOps.tb K) bids⟩
noncomputable def ammoniteref10_readOps.ret (K : Nat) : St → Option (resT [(.slice T42), .bool]).den := retA (ammoniteref10_readOps.E K) [(.slice T42), .bool] [(.tmp 2), (.tmp 3)]
noncomputable def ammoniteref10_readOps.C (K : Nat) : CEnv (resT [(.slice T42), .bool]).den := ⟨ammoniteref10_readOps.E K, 74, K, ammoniteref10_readOps.nm, ammoniteref10_readOps.ret K, [], fun _ => false, ammoniteref10_readOps.pre, lookG [(14, 0)]⟩
noncomputable def ammoniteref10_readOps.f (K : Nat) (x : (prodT [(.slice T49)]).den) : Option (resT [(.slice T42), .bool]).den := exec ammoniteref10_readOps.code (ammoniteref10_readOps.C K) (ammoniteref10_readOps.ret K) (init [(.slice T49)] x)
noncomputable def ammoniteref10_readOps.m3 (out4 : (List D42)) (t10 : (List D49)) (t11 : Int) (t12 : Int) : St := mkSt [(4, (.vs 4 0 T42 (out4 : List D42))), (10, (.d (.slice T49) (t10 : (List D49)))), (11, (.d (.int .i64) (t11 : Int))), (12, (.d (.int .i64) (t12 : Int)))] [(4, (.vec T42 0))]
noncomputable def ammoniteref10_readOps.r3 (K : Nat)  (n : Nat) : St → Option ((List D42) × Bool × Unit) := loopAt [.r, .r, .l, .r, .b] ammoniteref10_readOps.code (ammoniteref10_readOps.C K) (ammoniteref10_readOps.ret K) [] n
noncomputable def ammoniteref10_readOps.l3 (K : Nat)  (n : Nat) (out4 : (List D42)) (t10 : (List D49)) (t11 : Int) (t12 : Int) : Option ((List D42) × Bool × Unit) := ammoniteref10_readOps.r3 K n (ammoniteref10_readOps.m3 out4 t10 t11 t12)
noncomputable def ammoniteref10_readOps.mj14 (out4 : (List D42)) (t10 : (List D49)) (t11 : Int) (t12 : Int) (bt7_0 : Int) (bt7_1 : (List UInt8)) (bt7_2 : (List UInt8)) (bt7_3 : (List UInt8)) : St := mkSt [(4, (.vs 4 0 T42 (out4 : List D42))), (7, (.ptr 7 0)), (10, (.d (.slice T49) (t10 : (List D49)))), (11, (.d (.int .i64) (t11 : Int))), (12, (.d (.int .i64) (t12 : Int)))] [(4, (.vec T42 0)), (7, (.box [(.d (.int .u8) (bt7_0 : Int)), (.d .str (bt7_1 : (List UInt8))), (.d .str (bt7_2 : (List UInt8))), (.d .str (bt7_3 : (List UInt8)))]))]
noncomputable def ammoniteref10_readOps.j14 (K : Nat) (ρ3 : St → Option ((List D42) × Bool × Unit)) (out4 : (List D42)) (t10 : (List D49)) (t11 : Int) (t12 : Int) (bt7_0 : Int) (bt7_1 : (List UInt8)) (bt7_2 : (List UInt8)) (bt7_3 : (List UInt8)) : Option ((List D42) × Bool × Unit) := pointAt [.r, .r, .l, .r, .b, .o, .r, .r, .l, .b, .r, .r, .r, .r, .r] ammoniteref10_readOps.code (ammoniteref10_readOps.C K) (ammoniteref10_readOps.ret K) [ρ3] (ammoniteref10_readOps.mj14 out4 t10 t11 t12 bt7_0 bt7_1 bt7_2 bt7_3)
theorem ammoniteref10_readOps.eq (K : Nat) (l0 : (List D49)) : ammoniteref10_readOps.f K (l0, ()) =
 ((ammoniteref10_readOps.l3 K K ([] : (List D42)) l0 (List.length l0 : Int) (0 : Int)) : Option ((List D42) × Bool × Unit)) := by kernel_rfl
theorem ammoniteref10_readOps.l3_succ (K : Nat)  (n : Nat) (out4 : (List D42)) (t10 : (List D49)) (t11 : Int) (t12 : Int) : ammoniteref10_readOps.l3 K (n + 1) out4 t10 t11 t12 =
 ((bif (decide (t12 < t11)) then
 (chks [(decide ((0 : Int) ≤ t12)), (decide (t12 < (List.length t10 : Int)))]
 (bif (!(decide ((List.getD t10 (Int.toNat t12) (DTy.dflt T49)).1 = (84 : Int)))) then
 (ammoniteref10_readOps.l3 K n out4 t10 t11 (IntKind.wrap .i64 (t12 + (1 : Int))))
 else
 (bif (decide ((List.length (List.getD t10 (Int.toNat t12) (DTy.dflt T49)).2.1 : Int) < (2 : Int))) then
 (some (([] : (List D42)), false, ()))
 else
 (bif (decide ((3 : Int) < (List.length (List.getD t10 (Int.toNat t12) (DTy.dflt T49)).2.1 : Int))) then
 (some (([] : (List D42)), false, ()))
 else
 (chks [(decide ((0 : Int) < (List.length (List.getD t10 (Int.toNat t12) (DTy.dflt T49)).2.1 : Int)))]
 (bif (decide ((List.length (List.getD (List.getD t10 (Int.toNat t12) (DTy.dflt T49)).2.1 (Int.toNat (0 : Int)) (DTy.dflt .str)) : Int) < (2 : Int))) then
 (some (([] : (List D42)), false, ()))
 else
 (chks [(decide ((0 : Int) < (List.length (List.getD t10 (Int.toNat t12) (DTy.dflt T49)).2.1 : Int)))]
 (chks [(decide ((0 : Int) < (List.length (List.getD (List.getD t10 (Int.toNat t12) (DTy.dflt T49)).2.1 (Int.toNat (0 : Int)) (DTy.dflt .str)) : Int)))]
 (chks [(decide ((0 : Int) < (List.length (List.getD t10 (Int.toNat t12) (DTy.dflt T49)).2.1 : Int)))]
 (chks [(decide ((1 : Int) ≤ (List.length (List.getD (List.getD t10 (Int.toNat t12) (DTy.dflt T49)).2.1 (Int.toNat (0 : Int)) (DTy.dflt .str)) : Int)))]
 (chks [(decide ((1 : Int) < (List.length (List.getD t10 (Int.toNat t12) (DTy.dflt T49)).2.1 : Int)))]
 (bif (decide ((List.length (List.getD t10 (Int.toNat t12) (DTy.dflt T49)).2.1 : Int) = (3 : Int))) then
 (chks [(decide ((2 : Int) < (List.length (List.getD t10 (Int.toNat t12) (DTy.dflt T49)).2.1 : Int)))]
 ((ammoniteref10_Unescape.f K ((List.getD (List.getD t10 (Int.toNat t12) (DTy.dflt T49)).2.1 (Int.toNat (2 : Int)) (DTy.dflt .str)), ())).bind fun v_1 =>
 (bif (!v_1.2.1) then
 (some (([] : (List D42)), false, ()))
 else
 (ammoniteref10_readOps.j14 K (ammoniteref10_readOps.r3 K n) out4 t10 t11 t12 ((List.getD (List.getD (List.getD t10 (Int.toNat t12) (DTy.dflt T49)).2.1 (Int.toNat (0 : Int)) (DTy.dflt .str)) (Int.toNat (0 : Int)) 0).toNat : Int) (cutL (List.getD (List.getD t10 (Int.toNat t12) (DTy.dflt T49)).2.1 (Int.toNat (0 : Int)) (DTy.dflt .str)) (some (1 : Int)) none) (List.getD (List.getD t10 (Int.toNat t12) (DTy.dflt T49)).2.1 (Int.toNat (1 : Int)) (DTy.dflt .str)) v_1.1))))
 else
 (ammoniteref10_readOps.j14 K (ammoniteref10_readOps.r3 K n) out4 t10 t11 t12 ((List.getD (List.getD (List.getD t10 (Int.toNat t12) (DTy.dflt T49)).2.1 (Int.toNat (0 : Int)) (DTy.dflt .str)) (Int.toNat (0 : Int)) 0).toNat : Int) (cutL (List.getD (List.getD t10 (Int.toNat t12) (DTy.dflt T49)).2.1 (Int.toNat (0 : Int)) (DTy.dflt .str)) (some (1 : Int)) none) (List.getD (List.getD t10 (Int.toNat t12) (DTy.dflt T49)).2.1 (Int.toNat (1 : Int)) (DTy.dflt .str)) [])))))))))))))
 else
 (some (out4, true, ()))) : Option ((List D42) × Bool × Unit)) := by kernel_rfl
theorem ammoniteref10_readOps.j14_eq {K : Nat} (hK : 1000 ≤ K) (ρ3 : St → Option ((List D42) × Bool × Unit)) (out4 : (List D42)) (t10 : (List D49)) (t11 : Int) (t12 : Int) (bt7_0 : Int) (bt7_1 : (List UInt8)) (bt7_2 : (List UInt8)) (bt7_3 : (List UInt8)) : ammoniteref10_readOps.j14 K ρ3 out4 t10 t11 t12 bt7_0 bt7_1 bt7_2 bt7_3 =
 ((chks [(growOk (List.length out4) (List.length ([(bt7_0, (bt7_1, (bt7_2, (bt7_3, ()))))] : List D42)) 56)]
 (ρ3 (ammoniteref10_readOps.m3 (out4 ++ ([(bt7_0, (bt7_1, (bt7_2, (bt7_3, ()))))] : List D42)) t10 t11 (IntKind.wrap .i64 (t12 + (1 : Int)))))) : Option ((List D42) × Bool × Unit)) := by
 obtain ⟨K, rfl⟩ : ∃ m, K = m + 1 := ⟨K - 1, by omega⟩
 kernel_rfl
theorem ammoniteref10_readOps.tbOk (K : Nat) : TbOk Try.prog (ammoniteref10_readOps.tb K) := by
 intro e he
 simp only [ammoniteref10_readOps.tb, List.mem_cons, List.not_mem_nil, or_false] at he
 rcases he with rfl
 · exact ⟨ammoniteref10_Unescape.ok K, enters_of Try.func48 (by kernel_rfl) rfl⟩
theorem ammoniteref10_readOps.itsOk : ItbOk Try.prog ammoniteref10_readOps.its := by
 intro e he
 simp only [ammoniteref10_readOps.its, List.mem_cons, List.not_mem_nil, or_false] at he
theorem ammoniteref10_readOps.ok (K : Nat) : PureC Try.prog 47 ⟨[(.slice T49)], [(.slice T42), .bool], ammoniteref10_readOps.f K⟩ :=
 fn_sound (itOk _ _) (E := ammoniteref10_readOps.E K) (full_ok tys_ok ammoniteref10_readOps.itsOk (ammoniteref10_readOps.tbOk K) par_ok bld_ok bty_ok) mixed Try.func47 (c := ammoniteref10_readOps.code) (by kernel_rfl) (by kernel_rfl) (by decide) (by kernel_rfl)
noncomputable def ammoniteref10_rightOps.tb (K : Nat) : Tb := [(59, ⟨[.str], [.bool], ammoniteref10_Word.f K⟩), (58, ⟨[.str], [.bool], ammoniteref1_Is.f K⟩)]
noncomputable def ammoniteref10_rightOps.its : Itb := []
noncomputable def ammoniteref10_rightOps.code : Code := (Try.f60.body).getD .skip
noncomputable def ammoniteref10_rightOps.nm : Nat → NormSpec := lookN [(2, ⟨[(0, (.data (.slice T42))), (1, (.data .bool)), (7, (.data (.slice T42))), (8, (.data (.int .i64))), (9, (.data (.int .i64)))], [], []⟩)]
noncomputable def ammoniteref10_rightOps.pre : Nat → Option NormSpec := lookP [(6, ⟨[(0, (.data (.slice T42))), (1, (.data .bool)), (5, (.data (.int .i64))), (6, .raw), (7, (.data (.slice T42))), (8, (.data (.int .i64))), (9, (.data (.int .i64)))], [(6, [(.data (.int .u8)), (.data .str), (.data .str), (.data .str)])], []⟩)]
noncomputable def ammoniteref10_rightOps.E (K : Nat) : Env := ⟨lookR tys, bty, fullCall ammoniteref10_rightOps.its (ammoniteref10_rightOps.tb K) bids⟩
noncomputable def ammoniteref10_rightOps.ret (K : Nat) : St → Option (resT [.bool]).den := retA (ammoniteref10_rightOps.E K) [.bool] [(.tmp 4)]
noncomputable def ammoniteref10_rightOps.C (K : Nat) : CEnv (resT [.bool]).den := ⟨ammoniteref10_rightOps.E K, 106, K, ammoniteref10_rightOps.nm, ammoniteref10_rightOps.ret K, [], fun _ => false, ammoniteref10_rightOps.pre, lookG [(6, 0)]⟩
noncomputable def ammoniteref10_rightOps.f (K : Nat) (x : (prodT [(.slice T42), .bool]).den) : Option (resT [.bool]).den := exec ammoniteref10_rightOps.code (ammoniteref10_rightOps.C K) (ammoniteref10_rightOps.ret K) (init [(.slice T42), .bool] x)
noncomputable def ammoniteref10_rightOps.m2 (l0 : (List D42)) (own1 : Bool) (t7 : (List D42)) (t8 : Int) (t9 : Int) : St := mkSt [(0, (.d (.slice T42) (l0 : (List D42)))), (1, (.d .bool (own1 : Bool))), (7, (.d (.slice T42) (t7 : (List D42)))), (8, (.d (.int .i64) (t8 : Int))), (9, (.d (.int .i64) (t9 : Int)))] []
noncomputable def ammoniteref10_rightOps.r2 (K : Nat)  (n : Nat) : St → Option Bool := loopAt [.r, .l, .r, .b] ammoniteref10_rightOps.code (ammoniteref10_rightOps.C K) (ammoniteref10_rightOps.ret K) [] n
noncomputable def ammoniteref10_rightOps.l2 (K : Nat)  (n : Nat) (l0 : (List D42)) (own1 : Bool) (t7 : (List D42)) (t8 : Int) (t9 : Int) : Option Bool := ammoniteref10_rightOps.r2 K n (ammoniteref10_rightOps.m2 l0 own1 t7 t8 t9)
noncomputable def ammoniteref10_rightOps.mj6 (l0 : (List D42)) (own1 : Bool) (i5 : Int) (t7 : (List D42)) (t8 : Int) (t9 : Int) (bt6_0 : Int) (bt6_1 : (List UInt8)) (bt6_2 : (List UInt8)) (bt6_3 : (List UInt8)) : St := mkSt [(0, (.d (.slice T42) (l0 : (List D42)))), (1, (.d .bool (own1 : Bool))), (5, (.d (.int .i64) (i5 : Int))), (6, (.ptr 6 0)), (7, (.d (.slice T42) (t7 : (List D42)))), (8, (.d (.int .i64) (t8 : Int))), (9, (.d (.int .i64) (t9 : Int)))] [(6, (.box [(.d (.int .u8) (bt6_0 : Int)), (.d .str (bt6_1 : (List UInt8))), (.d .str (bt6_2 : (List UInt8))), (.d .str (bt6_3 : (List UInt8)))]))]
noncomputable def ammoniteref10_rightOps.j6 (K : Nat) (ρ2 : St → Option Bool) (l0 : (List D42)) (own1 : Bool) (i5 : Int) (t7 : (List D42)) (t8 : Int) (t9 : Int) (bt6_0 : Int) (bt6_1 : (List UInt8)) (bt6_2 : (List UInt8)) (bt6_3 : (List UInt8)) : Option Bool := pointAt [.r, .l, .r, .b, .o, .r, .r, .l, .b, .r, .r, .l] ammoniteref10_rightOps.code (ammoniteref10_rightOps.C K) (ammoniteref10_rightOps.ret K) [ρ2] (ammoniteref10_rightOps.mj6 l0 own1 i5 t7 t8 t9 bt6_0 bt6_1 bt6_2 bt6_3)
theorem ammoniteref10_rightOps.eq (K : Nat) (l0 : (List D42)) (own1 : Bool) : ammoniteref10_rightOps.f K (l0, own1, ()) =
 ((ammoniteref10_rightOps.l2 K K l0 own1 l0 (List.length l0 : Int) (0 : Int)) : Option Bool) := by kernel_rfl
theorem ammoniteref10_rightOps.l2_succ (K : Nat)  (n : Nat) (l0 : (List D42)) (own1 : Bool) (t7 : (List D42)) (t8 : Int) (t9 : Int) : ammoniteref10_rightOps.l2 K (n + 1) l0 own1 t7 t8 t9 =
 ((bif (decide (t9 < t8)) then
 (chks [(decide ((0 : Int) ≤ t9)), (decide (t9 < (List.length t7 : Int)))]
 (bif (!(decide ((List.getD t7 (Int.toNat t9) (DTy.dflt T42)).1 = (43 : Int)))) then
 (bif (!(decide ((List.getD t7 (Int.toNat t9) (DTy.dflt T42)).1 = (45 : Int)))) then
 (bif (!(decide ((List.getD t7 (Int.toNat t9) (DTy.dflt T42)).1 = (42 : Int)))) then
 (some false)
 else
 ((ammoniteref10_Word.f K ((List.getD t7 (Int.toNat t9) (DTy.dflt T42)).2.1, ())).bind fun v_1 =>
 (bif (!v_1) then
 (some false)
 else
 (bif own1 then
 (bif (!(decide ((List.getD t7 (Int.toNat t9) (DTy.dflt T42)).2.2.1 = ([42] : List UInt8)))) then
 (some false)
 else
 (bif (!own1) then
 ((ammoniteref1_Is.f K ((List.getD t7 (Int.toNat t9) (DTy.dflt T42)).2.2.1, ())).bind fun v_2 =>
 (bif (!v_2) then
 (some false)
 else
 (bif (decide ((List.getD t7 (Int.toNat t9) (DTy.dflt T42)).1 = (45 : Int))) then
 (bif (!(decide ((List.getD t7 (Int.toNat t9) (DTy.dflt T42)).2.2.2.1 = ([] : List UInt8)))) then
 (some false)
 else
 (bif (decide ((12 : Int) < (List.length (List.getD t7 (Int.toNat t9) (DTy.dflt T42)).2.2.2.1 : Int))) then
 (some false)
 else
 (ammoniteref10_rightOps.j6 K (ammoniteref10_rightOps.r2 K n) l0 own1 t9 t7 t8 t9 (List.getD t7 (Int.toNat t9) (DTy.dflt T42)).1 (List.getD t7 (Int.toNat t9) (DTy.dflt T42)).2.1 (List.getD t7 (Int.toNat t9) (DTy.dflt T42)).2.2.1 (List.getD t7 (Int.toNat t9) (DTy.dflt T42)).2.2.2.1)))
 else
 (bif (decide ((12 : Int) < (List.length (List.getD t7 (Int.toNat t9) (DTy.dflt T42)).2.2.2.1 : Int))) then
 (some false)
 else
 (ammoniteref10_rightOps.j6 K (ammoniteref10_rightOps.r2 K n) l0 own1 t9 t7 t8 t9 (List.getD t7 (Int.toNat t9) (DTy.dflt T42)).1 (List.getD t7 (Int.toNat t9) (DTy.dflt T42)).2.1 (List.getD t7 (Int.toNat t9) (DTy.dflt T42)).2.2.1 (List.getD t7 (Int.toNat t9) (DTy.dflt T42)).2.2.2.1)))))
 else
 (bif (decide ((List.getD t7 (Int.toNat t9) (DTy.dflt T42)).1 = (45 : Int))) then
 (bif (!(decide ((List.getD t7 (Int.toNat t9) (DTy.dflt T42)).2.2.2.1 = ([] : List UInt8)))) then
 (some false)
 else
 (bif (decide ((12 : Int) < (List.length (List.getD t7 (Int.toNat t9) (DTy.dflt T42)).2.2.2.1 : Int))) then
 (some false)
 else
 (ammoniteref10_rightOps.j6 K (ammoniteref10_rightOps.r2 K n) l0 own1 t9 t7 t8 t9 (List.getD t7 (Int.toNat t9) (DTy.dflt T42)).1 (List.getD t7 (Int.toNat t9) (DTy.dflt T42)).2.1 (List.getD t7 (Int.toNat t9) (DTy.dflt T42)).2.2.1 (List.getD t7 (Int.toNat t9) (DTy.dflt T42)).2.2.2.1)))
 else
 (bif (decide ((12 : Int) < (List.length (List.getD t7 (Int.toNat t9) (DTy.dflt T42)).2.2.2.1 : Int))) then
 (some false)
 else
 (ammoniteref10_rightOps.j6 K (ammoniteref10_rightOps.r2 K n) l0 own1 t9 t7 t8 t9 (List.getD t7 (Int.toNat t9) (DTy.dflt T42)).1 (List.getD t7 (Int.toNat t9) (DTy.dflt T42)).2.1 (List.getD t7 (Int.toNat t9) (DTy.dflt T42)).2.2.1 (List.getD t7 (Int.toNat t9) (DTy.dflt T42)).2.2.2.1)))))
 else
 (bif (!own1) then
 ((ammoniteref1_Is.f K ((List.getD t7 (Int.toNat t9) (DTy.dflt T42)).2.2.1, ())).bind fun v_3 =>
 (bif (!v_3) then
 (some false)
 else
 (bif (decide ((List.getD t7 (Int.toNat t9) (DTy.dflt T42)).1 = (45 : Int))) then
 (bif (!(decide ((List.getD t7 (Int.toNat t9) (DTy.dflt T42)).2.2.2.1 = ([] : List UInt8)))) then
 (some false)
 else
 (bif (decide ((12 : Int) < (List.length (List.getD t7 (Int.toNat t9) (DTy.dflt T42)).2.2.2.1 : Int))) then
 (some false)
 else
 (ammoniteref10_rightOps.j6 K (ammoniteref10_rightOps.r2 K n) l0 own1 t9 t7 t8 t9 (List.getD t7 (Int.toNat t9) (DTy.dflt T42)).1 (List.getD t7 (Int.toNat t9) (DTy.dflt T42)).2.1 (List.getD t7 (Int.toNat t9) (DTy.dflt T42)).2.2.1 (List.getD t7 (Int.toNat t9) (DTy.dflt T42)).2.2.2.1)))
 else
 (bif (decide ((12 : Int) < (List.length (List.getD t7 (Int.toNat t9) (DTy.dflt T42)).2.2.2.1 : Int))) then
 (some false)
 else
 (ammoniteref10_rightOps.j6 K (ammoniteref10_rightOps.r2 K n) l0 own1 t9 t7 t8 t9 (List.getD t7 (Int.toNat t9) (DTy.dflt T42)).1 (List.getD t7 (Int.toNat t9) (DTy.dflt T42)).2.1 (List.getD t7 (Int.toNat t9) (DTy.dflt T42)).2.2.1 (List.getD t7 (Int.toNat t9) (DTy.dflt T42)).2.2.2.1)))))
 else
 (bif (decide ((List.getD t7 (Int.toNat t9) (DTy.dflt T42)).1 = (45 : Int))) then
 (bif (!(decide ((List.getD t7 (Int.toNat t9) (DTy.dflt T42)).2.2.2.1 = ([] : List UInt8)))) then
 (some false)
 else
 (bif (decide ((12 : Int) < (List.length (List.getD t7 (Int.toNat t9) (DTy.dflt T42)).2.2.2.1 : Int))) then
 (some false)
 else
 (ammoniteref10_rightOps.j6 K (ammoniteref10_rightOps.r2 K n) l0 own1 t9 t7 t8 t9 (List.getD t7 (Int.toNat t9) (DTy.dflt T42)).1 (List.getD t7 (Int.toNat t9) (DTy.dflt T42)).2.1 (List.getD t7 (Int.toNat t9) (DTy.dflt T42)).2.2.1 (List.getD t7 (Int.toNat t9) (DTy.dflt T42)).2.2.2.1)))
 else
 (bif (decide ((12 : Int) < (List.length (List.getD t7 (Int.toNat t9) (DTy.dflt T42)).2.2.2.1 : Int))) then
 (some false)
 else
 (ammoniteref10_rightOps.j6 K (ammoniteref10_rightOps.r2 K n) l0 own1 t9 t7 t8 t9 (List.getD t7 (Int.toNat t9) (DTy.dflt T42)).1 (List.getD t7 (Int.toNat t9) (DTy.dflt T42)).2.1 (List.getD t7 (Int.toNat t9) (DTy.dflt T42)).2.2.1 (List.getD t7 (Int.toNat t9) (DTy.dflt T42)).2.2.2.1))))))))
 else
 ((ammoniteref10_Word.f K ((List.getD t7 (Int.toNat t9) (DTy.dflt T42)).2.1, ())).bind fun v_4 =>
 (bif (!v_4) then
 (some false)
 else
 (bif own1 then
 (bif (!(decide ((List.getD t7 (Int.toNat t9) (DTy.dflt T42)).2.2.1 = ([42] : List UInt8)))) then
 (some false)
 else
 (bif (!own1) then
 ((ammoniteref1_Is.f K ((List.getD t7 (Int.toNat t9) (DTy.dflt T42)).2.2.1, ())).bind fun v_5 =>
 (bif (!v_5) then
 (some false)
 else
 (bif (decide ((List.getD t7 (Int.toNat t9) (DTy.dflt T42)).1 = (45 : Int))) then
 (bif (!(decide ((List.getD t7 (Int.toNat t9) (DTy.dflt T42)).2.2.2.1 = ([] : List UInt8)))) then
 (some false)
 else
 (bif (decide ((12 : Int) < (List.length (List.getD t7 (Int.toNat t9) (DTy.dflt T42)).2.2.2.1 : Int))) then
 (some false)
 else
 (ammoniteref10_rightOps.j6 K (ammoniteref10_rightOps.r2 K n) l0 own1 t9 t7 t8 t9 (List.getD t7 (Int.toNat t9) (DTy.dflt T42)).1 (List.getD t7 (Int.toNat t9) (DTy.dflt T42)).2.1 (List.getD t7 (Int.toNat t9) (DTy.dflt T42)).2.2.1 (List.getD t7 (Int.toNat t9) (DTy.dflt T42)).2.2.2.1)))
 else
 (bif (decide ((12 : Int) < (List.length (List.getD t7 (Int.toNat t9) (DTy.dflt T42)).2.2.2.1 : Int))) then
 (some false)
 else
 (ammoniteref10_rightOps.j6 K (ammoniteref10_rightOps.r2 K n) l0 own1 t9 t7 t8 t9 (List.getD t7 (Int.toNat t9) (DTy.dflt T42)).1 (List.getD t7 (Int.toNat t9) (DTy.dflt T42)).2.1 (List.getD t7 (Int.toNat t9) (DTy.dflt T42)).2.2.1 (List.getD t7 (Int.toNat t9) (DTy.dflt T42)).2.2.2.1)))))
 else
 (bif (decide ((List.getD t7 (Int.toNat t9) (DTy.dflt T42)).1 = (45 : Int))) then
 (bif (!(decide ((List.getD t7 (Int.toNat t9) (DTy.dflt T42)).2.2.2.1 = ([] : List UInt8)))) then
 (some false)
 else
 (bif (decide ((12 : Int) < (List.length (List.getD t7 (Int.toNat t9) (DTy.dflt T42)).2.2.2.1 : Int))) then
 (some false)
 else
 (ammoniteref10_rightOps.j6 K (ammoniteref10_rightOps.r2 K n) l0 own1 t9 t7 t8 t9 (List.getD t7 (Int.toNat t9) (DTy.dflt T42)).1 (List.getD t7 (Int.toNat t9) (DTy.dflt T42)).2.1 (List.getD t7 (Int.toNat t9) (DTy.dflt T42)).2.2.1 (List.getD t7 (Int.toNat t9) (DTy.dflt T42)).2.2.2.1)))
 else
 (bif (decide ((12 : Int) < (List.length (List.getD t7 (Int.toNat t9) (DTy.dflt T42)).2.2.2.1 : Int))) then
 (some false)
 else
 (ammoniteref10_rightOps.j6 K (ammoniteref10_rightOps.r2 K n) l0 own1 t9 t7 t8 t9 (List.getD t7 (Int.toNat t9) (DTy.dflt T42)).1 (List.getD t7 (Int.toNat t9) (DTy.dflt T42)).2.1 (List.getD t7 (Int.toNat t9) (DTy.dflt T42)).2.2.1 (List.getD t7 (Int.toNat t9) (DTy.dflt T42)).2.2.2.1)))))
 else
 (bif (!own1) then
 ((ammoniteref1_Is.f K ((List.getD t7 (Int.toNat t9) (DTy.dflt T42)).2.2.1, ())).bind fun v_6 =>
 (bif (!v_6) then
 (some false)
 else
 (bif (decide ((List.getD t7 (Int.toNat t9) (DTy.dflt T42)).1 = (45 : Int))) then
 (bif (!(decide ((List.getD t7 (Int.toNat t9) (DTy.dflt T42)).2.2.2.1 = ([] : List UInt8)))) then
 (some false)
 else
 (bif (decide ((12 : Int) < (List.length (List.getD t7 (Int.toNat t9) (DTy.dflt T42)).2.2.2.1 : Int))) then
 (some false)
 else
 (ammoniteref10_rightOps.j6 K (ammoniteref10_rightOps.r2 K n) l0 own1 t9 t7 t8 t9 (List.getD t7 (Int.toNat t9) (DTy.dflt T42)).1 (List.getD t7 (Int.toNat t9) (DTy.dflt T42)).2.1 (List.getD t7 (Int.toNat t9) (DTy.dflt T42)).2.2.1 (List.getD t7 (Int.toNat t9) (DTy.dflt T42)).2.2.2.1)))
 else
 (bif (decide ((12 : Int) < (List.length (List.getD t7 (Int.toNat t9) (DTy.dflt T42)).2.2.2.1 : Int))) then
 (some false)
 else
 (ammoniteref10_rightOps.j6 K (ammoniteref10_rightOps.r2 K n) l0 own1 t9 t7 t8 t9 (List.getD t7 (Int.toNat t9) (DTy.dflt T42)).1 (List.getD t7 (Int.toNat t9) (DTy.dflt T42)).2.1 (List.getD t7 (Int.toNat t9) (DTy.dflt T42)).2.2.1 (List.getD t7 (Int.toNat t9) (DTy.dflt T42)).2.2.2.1)))))
 else
 (bif (decide ((List.getD t7 (Int.toNat t9) (DTy.dflt T42)).1 = (45 : Int))) then
 (bif (!(decide ((List.getD t7 (Int.toNat t9) (DTy.dflt T42)).2.2.2.1 = ([] : List UInt8)))) then
 (some false)
 else
 (bif (decide ((12 : Int) < (List.length (List.getD t7 (Int.toNat t9) (DTy.dflt T42)).2.2.2.1 : Int))) then
 (some false)
 else
 (ammoniteref10_rightOps.j6 K (ammoniteref10_rightOps.r2 K n) l0 own1 t9 t7 t8 t9 (List.getD t7 (Int.toNat t9) (DTy.dflt T42)).1 (List.getD t7 (Int.toNat t9) (DTy.dflt T42)).2.1 (List.getD t7 (Int.toNat t9) (DTy.dflt T42)).2.2.1 (List.getD t7 (Int.toNat t9) (DTy.dflt T42)).2.2.2.1)))
 else
 (bif (decide ((12 : Int) < (List.length (List.getD t7 (Int.toNat t9) (DTy.dflt T42)).2.2.2.1 : Int))) then
 (some false)
 else
 (ammoniteref10_rightOps.j6 K (ammoniteref10_rightOps.r2 K n) l0 own1 t9 t7 t8 t9 (List.getD t7 (Int.toNat t9) (DTy.dflt T42)).1 (List.getD t7 (Int.toNat t9) (DTy.dflt T42)).2.1 (List.getD t7 (Int.toNat t9) (DTy.dflt T42)).2.2.1 (List.getD t7 (Int.toNat t9) (DTy.dflt T42)).2.2.2.1))))))))
 else
 ((ammoniteref10_Word.f K ((List.getD t7 (Int.toNat t9) (DTy.dflt T42)).2.1, ())).bind fun v_7 =>
 (bif (!v_7) then
 (some false)
 else
 (bif own1 then
 (bif (!(decide ((List.getD t7 (Int.toNat t9) (DTy.dflt T42)).2.2.1 = ([42] : List UInt8)))) then
 (some false)
 else
 (bif (!own1) then
 ((ammoniteref1_Is.f K ((List.getD t7 (Int.toNat t9) (DTy.dflt T42)).2.2.1, ())).bind fun v_8 =>
 (bif (!v_8) then
 (some false)
 else
 (bif (decide ((List.getD t7 (Int.toNat t9) (DTy.dflt T42)).1 = (45 : Int))) then
 (bif (!(decide ((List.getD t7 (Int.toNat t9) (DTy.dflt T42)).2.2.2.1 = ([] : List UInt8)))) then
 (some false)
 else
 (bif (decide ((12 : Int) < (List.length (List.getD t7 (Int.toNat t9) (DTy.dflt T42)).2.2.2.1 : Int))) then
 (some false)
 else
 (ammoniteref10_rightOps.j6 K (ammoniteref10_rightOps.r2 K n) l0 own1 t9 t7 t8 t9 (List.getD t7 (Int.toNat t9) (DTy.dflt T42)).1 (List.getD t7 (Int.toNat t9) (DTy.dflt T42)).2.1 (List.getD t7 (Int.toNat t9) (DTy.dflt T42)).2.2.1 (List.getD t7 (Int.toNat t9) (DTy.dflt T42)).2.2.2.1)))
 else
 (bif (decide ((12 : Int) < (List.length (List.getD t7 (Int.toNat t9) (DTy.dflt T42)).2.2.2.1 : Int))) then
 (some false)
 else
 (ammoniteref10_rightOps.j6 K (ammoniteref10_rightOps.r2 K n) l0 own1 t9 t7 t8 t9 (List.getD t7 (Int.toNat t9) (DTy.dflt T42)).1 (List.getD t7 (Int.toNat t9) (DTy.dflt T42)).2.1 (List.getD t7 (Int.toNat t9) (DTy.dflt T42)).2.2.1 (List.getD t7 (Int.toNat t9) (DTy.dflt T42)).2.2.2.1)))))
 else
 (bif (decide ((List.getD t7 (Int.toNat t9) (DTy.dflt T42)).1 = (45 : Int))) then
 (bif (!(decide ((List.getD t7 (Int.toNat t9) (DTy.dflt T42)).2.2.2.1 = ([] : List UInt8)))) then
 (some false)
 else
 (bif (decide ((12 : Int) < (List.length (List.getD t7 (Int.toNat t9) (DTy.dflt T42)).2.2.2.1 : Int))) then
 (some false)
 else
 (ammoniteref10_rightOps.j6 K (ammoniteref10_rightOps.r2 K n) l0 own1 t9 t7 t8 t9 (List.getD t7 (Int.toNat t9) (DTy.dflt T42)).1 (List.getD t7 (Int.toNat t9) (DTy.dflt T42)).2.1 (List.getD t7 (Int.toNat t9) (DTy.dflt T42)).2.2.1 (List.getD t7 (Int.toNat t9) (DTy.dflt T42)).2.2.2.1)))
 else
 (bif (decide ((12 : Int) < (List.length (List.getD t7 (Int.toNat t9) (DTy.dflt T42)).2.2.2.1 : Int))) then
 (some false)
 else
 (ammoniteref10_rightOps.j6 K (ammoniteref10_rightOps.r2 K n) l0 own1 t9 t7 t8 t9 (List.getD t7 (Int.toNat t9) (DTy.dflt T42)).1 (List.getD t7 (Int.toNat t9) (DTy.dflt T42)).2.1 (List.getD t7 (Int.toNat t9) (DTy.dflt T42)).2.2.1 (List.getD t7 (Int.toNat t9) (DTy.dflt T42)).2.2.2.1)))))
 else
 (bif (!own1) then
 ((ammoniteref1_Is.f K ((List.getD t7 (Int.toNat t9) (DTy.dflt T42)).2.2.1, ())).bind fun v_9 =>
 (bif (!v_9) then
 (some false)
 else
 (bif (decide ((List.getD t7 (Int.toNat t9) (DTy.dflt T42)).1 = (45 : Int))) then
 (bif (!(decide ((List.getD t7 (Int.toNat t9) (DTy.dflt T42)).2.2.2.1 = ([] : List UInt8)))) then
 (some false)
 else
 (bif (decide ((12 : Int) < (List.length (List.getD t7 (Int.toNat t9) (DTy.dflt T42)).2.2.2.1 : Int))) then
 (some false)
 else
 (ammoniteref10_rightOps.j6 K (ammoniteref10_rightOps.r2 K n) l0 own1 t9 t7 t8 t9 (List.getD t7 (Int.toNat t9) (DTy.dflt T42)).1 (List.getD t7 (Int.toNat t9) (DTy.dflt T42)).2.1 (List.getD t7 (Int.toNat t9) (DTy.dflt T42)).2.2.1 (List.getD t7 (Int.toNat t9) (DTy.dflt T42)).2.2.2.1)))
 else
 (bif (decide ((12 : Int) < (List.length (List.getD t7 (Int.toNat t9) (DTy.dflt T42)).2.2.2.1 : Int))) then
 (some false)
 else
 (ammoniteref10_rightOps.j6 K (ammoniteref10_rightOps.r2 K n) l0 own1 t9 t7 t8 t9 (List.getD t7 (Int.toNat t9) (DTy.dflt T42)).1 (List.getD t7 (Int.toNat t9) (DTy.dflt T42)).2.1 (List.getD t7 (Int.toNat t9) (DTy.dflt T42)).2.2.1 (List.getD t7 (Int.toNat t9) (DTy.dflt T42)).2.2.2.1)))))
 else
 (bif (decide ((List.getD t7 (Int.toNat t9) (DTy.dflt T42)).1 = (45 : Int))) then
 (bif (!(decide ((List.getD t7 (Int.toNat t9) (DTy.dflt T42)).2.2.2.1 = ([] : List UInt8)))) then
 (some false)
 else
 (bif (decide ((12 : Int) < (List.length (List.getD t7 (Int.toNat t9) (DTy.dflt T42)).2.2.2.1 : Int))) then
 (some false)
 else
 (ammoniteref10_rightOps.j6 K (ammoniteref10_rightOps.r2 K n) l0 own1 t9 t7 t8 t9 (List.getD t7 (Int.toNat t9) (DTy.dflt T42)).1 (List.getD t7 (Int.toNat t9) (DTy.dflt T42)).2.1 (List.getD t7 (Int.toNat t9) (DTy.dflt T42)).2.2.1 (List.getD t7 (Int.toNat t9) (DTy.dflt T42)).2.2.2.1)))
 else
 (bif (decide ((12 : Int) < (List.length (List.getD t7 (Int.toNat t9) (DTy.dflt T42)).2.2.2.1 : Int))) then
 (some false)
 else
 (ammoniteref10_rightOps.j6 K (ammoniteref10_rightOps.r2 K n) l0 own1 t9 t7 t8 t9 (List.getD t7 (Int.toNat t9) (DTy.dflt T42)).1 (List.getD t7 (Int.toNat t9) (DTy.dflt T42)).2.1 (List.getD t7 (Int.toNat t9) (DTy.dflt T42)).2.2.1 (List.getD t7 (Int.toNat t9) (DTy.dflt T42)).2.2.2.1)))))))))
 else
 (some (decide ((List.length l0 : Int) ≤ (12 : Int))))) : Option Bool) := by kernel_rfl
theorem ammoniteref10_rightOps.j6_eq {K : Nat} (hK : 1000 ≤ K) (ρ2 : St → Option Bool) (l0 : (List D42)) (own1 : Bool) (i5 : Int) (t7 : (List D42)) (t8 : Int) (t9 : Int) (bt6_0 : Int) (bt6_1 : (List UInt8)) (bt6_2 : (List UInt8)) (bt6_3 : (List UInt8)) : ammoniteref10_rightOps.j6 K ρ2 l0 own1 i5 t7 t8 t9 bt6_0 bt6_1 bt6_2 bt6_3 =
 ((bif (decide ((0 : Int) < i5)) then
 (chks [(decide ((0 : Int) ≤ (IntKind.wrap .i64 (i5 - (1 : Int))))), (decide ((IntKind.wrap .i64 (i5 - (1 : Int))) < (List.length l0 : Int)))]
 (bif (!(Op.bytesLess (List.getD l0 (Int.toNat (IntKind.wrap .i64 (i5 - (1 : Int)))) (DTy.dflt T42)).2.1 bt6_1 || decide ((List.getD l0 (Int.toNat (IntKind.wrap .i64 (i5 - (1 : Int)))) (DTy.dflt T42)).2.1 = bt6_1))) then
 (some false)
 else
 (chks [(decide ((0 : Int) ≤ (IntKind.wrap .i64 (i5 - (1 : Int))))), (decide ((IntKind.wrap .i64 (i5 - (1 : Int))) < (List.length l0 : Int)))]
 (bif (decide ((List.getD l0 (Int.toNat (IntKind.wrap .i64 (i5 - (1 : Int)))) (DTy.dflt T42)).2.1 = bt6_1)) then
 (chks [(decide ((0 : Int) ≤ (IntKind.wrap .i64 (i5 - (1 : Int))))), (decide ((IntKind.wrap .i64 (i5 - (1 : Int))) < (List.length l0 : Int)))]
 (bif (!(Op.bytesLess (List.getD l0 (Int.toNat (IntKind.wrap .i64 (i5 - (1 : Int)))) (DTy.dflt T42)).2.2.1 bt6_2)) then
 (some false)
 else
 (ρ2 (ammoniteref10_rightOps.m2 l0 own1 t7 t8 (IntKind.wrap .i64 (t9 + (1 : Int)))))))
 else
 (ρ2 (ammoniteref10_rightOps.m2 l0 own1 t7 t8 (IntKind.wrap .i64 (t9 + (1 : Int)))))))))
 else
 (ρ2 (ammoniteref10_rightOps.m2 l0 own1 t7 t8 (IntKind.wrap .i64 (t9 + (1 : Int)))))) : Option Bool) := by
 obtain ⟨K, rfl⟩ : ∃ m, K = m + 1 := ⟨K - 1, by omega⟩
 kernel_rfl
theorem ammoniteref10_rightOps.tbOk (K : Nat) : TbOk Try.prog (ammoniteref10_rightOps.tb K) := by
 intro e he
 simp only [ammoniteref10_rightOps.tb, List.mem_cons, List.not_mem_nil, or_false] at he
 rcases he with rfl | rfl
 · exact ⟨ammoniteref10_Word.ok K, enters_of Try.func59 (by kernel_rfl) rfl⟩
 · exact ⟨ammoniteref1_Is.ok K, enters_of Try.func58 (by kernel_rfl) rfl⟩
theorem ammoniteref10_rightOps.itsOk : ItbOk Try.prog ammoniteref10_rightOps.its := by
 intro e he
 simp only [ammoniteref10_rightOps.its, List.mem_cons, List.not_mem_nil, or_false] at he
theorem ammoniteref10_rightOps.ok (K : Nat) : PureC Try.prog 60 ⟨[(.slice T42), .bool], [.bool], ammoniteref10_rightOps.f K⟩ :=
 fn_sound (itOk _ _) (E := ammoniteref10_rightOps.E K) (full_ok tys_ok ammoniteref10_rightOps.itsOk (ammoniteref10_rightOps.tbOk K) par_ok bld_ok bty_ok) mixed Try.func60 (c := ammoniteref10_rightOps.code) (by kernel_rfl) (by kernel_rfl) (by decide) (by kernel_rfl)
noncomputable def ammonitebook_Same_TagOp.tb (K : Nat) : Tb := []
noncomputable def ammonitebook_Same_TagOp.its : Itb := []
noncomputable def ammonitebook_Same_TagOp.code : Code := (Try.f21.body).getD .skip
noncomputable def ammonitebook_Same_TagOp.nm : Nat → NormSpec := lookN [(4, ⟨[(0, (.data (.slice T42))), (1, (.data (.slice T42))), (5, (.data (.int .i64)))], [], []⟩)]
noncomputable def ammonitebook_Same_TagOp.pre : Nat → Option NormSpec := lookP []
noncomputable def ammonitebook_Same_TagOp.E (K : Nat) : Env := ⟨lookR tys, bty, fullCall ammonitebook_Same_TagOp.its (ammonitebook_Same_TagOp.tb K) bids⟩
noncomputable def ammonitebook_Same_TagOp.ret (K : Nat) : St → Option (resT [.bool]).den := retA (ammonitebook_Same_TagOp.E K) [.bool] [(.tmp 4)]
noncomputable def ammonitebook_Same_TagOp.C (K : Nat) : CEnv (resT [.bool]).den := ⟨ammonitebook_Same_TagOp.E K, 26, K, ammonitebook_Same_TagOp.nm, ammonitebook_Same_TagOp.ret K, [], fun _ => false, ammonitebook_Same_TagOp.pre, lookG []⟩
noncomputable def ammonitebook_Same_TagOp.f (K : Nat) (x : (prodT [(.slice T42), (.slice T42)]).den) : Option (resT [.bool]).den := exec ammonitebook_Same_TagOp.code (ammonitebook_Same_TagOp.C K) (ammonitebook_Same_TagOp.ret K) (init [(.slice T42), (.slice T42)] x)
noncomputable def ammonitebook_Same_TagOp.m4 (a0 : (List D42)) (b1 : (List D42)) (i5 : Int) : St := mkSt [(0, (.d (.slice T42) (a0 : (List D42)))), (1, (.d (.slice T42) (b1 : (List D42)))), (5, (.d (.int .i64) (i5 : Int)))] []
noncomputable def ammonitebook_Same_TagOp.r4 (K : Nat)  (n : Nat) : St → Option Bool := loopAt [.r, .r, .l, .r, .b] ammonitebook_Same_TagOp.code (ammonitebook_Same_TagOp.C K) (ammonitebook_Same_TagOp.ret K) [] n
noncomputable def ammonitebook_Same_TagOp.l4 (K : Nat)  (n : Nat) (a0 : (List D42)) (b1 : (List D42)) (i5 : Int) : Option Bool := ammonitebook_Same_TagOp.r4 K n (ammonitebook_Same_TagOp.m4 a0 b1 i5)
theorem ammonitebook_Same_TagOp.eq (K : Nat) (a0 : (List D42)) (b1 : (List D42)) : ammonitebook_Same_TagOp.f K (a0, b1, ()) =
 ((bif (!(decide ((List.length a0 : Int) = (List.length b1 : Int)))) then
 (some false)
 else
 (ammonitebook_Same_TagOp.l4 K K a0 b1 (0 : Int))) : Option Bool) := by kernel_rfl
theorem ammonitebook_Same_TagOp.l4_succ (K : Nat)  (n : Nat) (a0 : (List D42)) (b1 : (List D42)) (i5 : Int) : ammonitebook_Same_TagOp.l4 K (n + 1) a0 b1 i5 =
 ((bif (decide (i5 < (List.length a0 : Int))) then
 (chks [(decide ((0 : Int) ≤ i5)), (decide (i5 < (List.length a0 : Int)))]
 (chks [(decide ((0 : Int) ≤ i5)), (decide (i5 < (List.length b1 : Int)))]
 (bif (!(eqD T42 (List.getD a0 (Int.toNat i5) (DTy.dflt T42)) (List.getD b1 (Int.toNat i5) (DTy.dflt T42)))) then
 (some false)
 else
 (ammonitebook_Same_TagOp.l4 K n a0 b1 (IntKind.wrap .i64 (i5 + (1 : Int)))))))
 else
 (some true)) : Option Bool) := by kernel_rfl
theorem ammonitebook_Same_TagOp.tbOk (K : Nat) : TbOk Try.prog (ammonitebook_Same_TagOp.tb K) := by
 intro e he
 simp only [ammonitebook_Same_TagOp.tb, List.mem_cons, List.not_mem_nil, or_false] at he
theorem ammonitebook_Same_TagOp.itsOk : ItbOk Try.prog ammonitebook_Same_TagOp.its := by
 intro e he
 simp only [ammonitebook_Same_TagOp.its, List.mem_cons, List.not_mem_nil, or_false] at he
theorem ammonitebook_Same_TagOp.ok (K : Nat) : PureC Try.prog 21 ⟨[(.slice T42), (.slice T42)], [.bool], ammonitebook_Same_TagOp.f K⟩ :=
 fn_sound (itOk _ _) (E := ammonitebook_Same_TagOp.E K) (full_ok tys_ok ammonitebook_Same_TagOp.itsOk (ammonitebook_Same_TagOp.tbOk K) par_ok bld_ok bty_ok) mixed Try.func21 (c := ammonitebook_Same_TagOp.code) (by kernel_rfl) (by kernel_rfl) (by decide) (by kernel_rfl)
noncomputable def slices_Equal_TagOp.tb (K : Nat) : Tb := []
noncomputable def slices_Equal_TagOp.its : Itb := []
noncomputable def slices_Equal_TagOp.code : Code := (Try.f63.body).getD .skip
noncomputable def slices_Equal_TagOp.nm : Nat → NormSpec := lookN [(4, ⟨[(0, (.data (.slice T42))), (1, (.data (.slice T42))), (12, (.data (.int .i64))), (13, (.data (.int .i64)))], [], []⟩)]
noncomputable def slices_Equal_TagOp.pre : Nat → Option NormSpec := lookP []
noncomputable def slices_Equal_TagOp.E (K : Nat) : Env := ⟨lookR tys, bty, fullCall slices_Equal_TagOp.its (slices_Equal_TagOp.tb K) bids⟩
noncomputable def slices_Equal_TagOp.ret (K : Nat) : St → Option (resT [.bool]).den := retA (slices_Equal_TagOp.E K) [.bool] [(.tmp 4)]
noncomputable def slices_Equal_TagOp.C (K : Nat) : CEnv (resT [.bool]).den := ⟨slices_Equal_TagOp.E K, 26, K, slices_Equal_TagOp.nm, slices_Equal_TagOp.ret K, [], fun _ => false, slices_Equal_TagOp.pre, lookG []⟩
noncomputable def slices_Equal_TagOp.f (K : Nat) (x : (prodT [(.slice T42), (.slice T42)]).den) : Option (resT [.bool]).den := exec slices_Equal_TagOp.code (slices_Equal_TagOp.C K) (slices_Equal_TagOp.ret K) (init [(.slice T42), (.slice T42)] x)
noncomputable def slices_Equal_TagOp.m4 (s10 : (List D42)) (s21 : (List D42)) (t12 : Int) (t13 : Int) : St := mkSt [(0, (.d (.slice T42) (s10 : (List D42)))), (1, (.d (.slice T42) (s21 : (List D42)))), (12, (.d (.int .i64) (t12 : Int))), (13, (.d (.int .i64) (t13 : Int)))] []
noncomputable def slices_Equal_TagOp.r4 (K : Nat)  (n : Nat) : St → Option Bool := loopAt [.r, .r, .l, .r, .b] slices_Equal_TagOp.code (slices_Equal_TagOp.C K) (slices_Equal_TagOp.ret K) [] n
noncomputable def slices_Equal_TagOp.l4 (K : Nat)  (n : Nat) (s10 : (List D42)) (s21 : (List D42)) (t12 : Int) (t13 : Int) : Option Bool := slices_Equal_TagOp.r4 K n (slices_Equal_TagOp.m4 s10 s21 t12 t13)
theorem slices_Equal_TagOp.eq (K : Nat) (s10 : (List D42)) (s21 : (List D42)) : slices_Equal_TagOp.f K (s10, s21, ()) =
 ((bif (!(decide ((List.length s10 : Int) = (List.length s21 : Int)))) then
 (some false)
 else
 (slices_Equal_TagOp.l4 K K s10 s21 (List.length s10 : Int) (0 : Int))) : Option Bool) := by kernel_rfl
theorem slices_Equal_TagOp.l4_succ (K : Nat)  (n : Nat) (s10 : (List D42)) (s21 : (List D42)) (t12 : Int) (t13 : Int) : slices_Equal_TagOp.l4 K (n + 1) s10 s21 t12 t13 =
 ((bif (decide (t13 < t12)) then
 (chks [(decide ((0 : Int) ≤ t13)), (decide (t13 < (List.length s10 : Int)))]
 (chks [(decide ((0 : Int) ≤ t13)), (decide (t13 < (List.length s21 : Int)))]
 (bif (!(eqD T42 (List.getD s10 (Int.toNat t13) (DTy.dflt T42)) (List.getD s21 (Int.toNat t13) (DTy.dflt T42)))) then
 (some false)
 else
 (slices_Equal_TagOp.l4 K n s10 s21 t12 (IntKind.wrap .i64 (t13 + (1 : Int)))))))
 else
 (some true)) : Option Bool) := by kernel_rfl
theorem slices_Equal_TagOp.tbOk (K : Nat) : TbOk Try.prog (slices_Equal_TagOp.tb K) := by
 intro e he
 simp only [slices_Equal_TagOp.tb, List.mem_cons, List.not_mem_nil, or_false] at he
theorem slices_Equal_TagOp.itsOk : ItbOk Try.prog slices_Equal_TagOp.its := by
 intro e he
 simp only [slices_Equal_TagOp.its, List.mem_cons, List.not_mem_nil, or_false] at he
theorem slices_Equal_TagOp.ok (K : Nat) : PureC Try.prog 63 ⟨[(.slice T42), (.slice T42)], [.bool], slices_Equal_TagOp.f K⟩ :=
 fn_sound (itOk _ _) (E := slices_Equal_TagOp.E K) (full_ok tys_ok slices_Equal_TagOp.itsOk (slices_Equal_TagOp.tbOk K) par_ok bld_ok bty_ok) mixed Try.func63 (c := slices_Equal_TagOp.code) (by kernel_rfl) (by kernel_rfl) (by decide) (by kernel_rfl)
end Go.Proofs.Ytaoadbkoambjbaa.Ab
