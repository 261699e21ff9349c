import Derived.Test.YtaoadbkoambjbaaAbt4
import Derived.Test.YtaoadbkoambjbaaProg
set_option linter.unusedVariables false
set_option linter.unusedSimpArgs false
set_option maxRecDepth 100000
namespace Go.Proofs.Ytaoadbkoambjbaa.Ab
open Go Go.RowKit Go.Proofs
noncomputable def ammonitekeep_Text_Text.tb (K : Nat) : Tb := [(23, ⟨[(.int .i64), (.int .i64), (.int .i64)], [(.int .i64)], ammonitebook_Within.f K⟩)]
noncomputable def ammonitekeep_Text_Text.its : Itb := []
noncomputable def ammonitekeep_Text_Text.code : Code := (Try.f43.body).getD .skip
noncomputable def ammonitekeep_Text_Text.nm : Nat → NormSpec := lookN [(4, ⟨[(1, .raw), (3, (.vec .str)), (4, (.data .str)), (5, (.data (.int .i64)))], [(1, [(.data (.int .i64)), (.data (.slice (.int .i64)))])], []⟩)]
noncomputable def ammonitekeep_Text_Text.pre : Nat → Option NormSpec := lookP []
noncomputable def ammonitekeep_Text_Text.E (K : Nat) : Env := ⟨lookR tys, bty, fullCall ammonitekeep_Text_Text.its (ammonitekeep_Text_Text.tb K) bids⟩
noncomputable def ammonitekeep_Text_Text.ret (K : Nat) : St → Option (resT [.str]).den := retA (ammonitekeep_Text_Text.E K) [.str] [(.tmp 2)]
noncomputable def ammonitekeep_Text_Text.C (K : Nat) : CEnv (resT [.str]).den := ⟨ammonitekeep_Text_Text.E K, 38, K, ammonitekeep_Text_Text.nm, ammonitekeep_Text_Text.ret K, [], fun _ => false, ammonitekeep_Text_Text.pre, lookG []⟩
noncomputable def ammonitekeep_Text_Text.f (K : Nat) (x : (prodT [T33]).den) : Option (resT [.str]).den := exec ammonitekeep_Text_Text.code (ammonitekeep_Text_Text.C K) (ammonitekeep_Text_Text.ret K) (init [T33] x)
noncomputable def ammonitekeep_Text_Text.m4 (pieces3 : (List (List UInt8))) (out4 : (List UInt8)) (i5 : Int) (bk1_0 : Int) (bk1_1 : (List Int)) : St := mkSt [(1, (.ptr 1 0)), (3, (.vs 3 0 .str (pieces3 : List (List UInt8)))), (4, (.d .str (out4 : (List UInt8)))), (5, (.d (.int .i64) (i5 : Int)))] [(3, (.vec .str 0)), (1, (.box [(.d (.int .i64) (bk1_0 : Int)), (.d (.slice (.int .i64)) (bk1_1 : (List Int)))]))]
noncomputable def ammonitekeep_Text_Text.r4 (K : Nat)  (n : Nat) : St → Option (List UInt8) := loopAt [.r, .r, .r, .l, .r, .b] ammonitekeep_Text_Text.code (ammonitekeep_Text_Text.C K) (ammonitekeep_Text_Text.ret K) [] n
noncomputable def ammonitekeep_Text_Text.l4 (K : Nat)  (n : Nat) (pieces3 : (List (List UInt8))) (out4 : (List UInt8)) (i5 : Int) (bk1_0 : Int) (bk1_1 : (List Int)) : Option (List UInt8) := ammonitekeep_Text_Text.r4 K n (ammonitekeep_Text_Text.m4 pieces3 out4 i5 bk1_0 bk1_1)
theorem ammonitekeep_Text_Text.eq (K : Nat) (k0 : D33) : ammonitekeep_Text_Text.f K (k0, ()) =
 ((ammonitekeep_Text_Text.l4 K K ([([108, 105, 110, 101, 32, 111, 110, 101, 10] : List UInt8), ([116, 104, 101, 32, 115, 101, 99, 111, 110, 100, 32, 108, 105, 110, 101, 32, 105, 115, 32, 108, 111, 110, 103, 101, 114, 10] : List UInt8), ([120] : List UInt8), ([48, 59] : List UInt8), ([97, 98, 99, 97, 98, 99, 97, 98, 99] : List UInt8), ([10] : List UInt8), ([51, 58, 120, 121, 122] : List UInt8), ([116, 97, 105, 108, 32, 111, 102, 32, 105, 116, 32, 97, 108, 108] : List UInt8)] : List (List UInt8)) ([] : List UInt8) (0 : Int) k0.1 k0.2.1) : Option (List UInt8)) := by kernel_rfl
theorem ammonitekeep_Text_Text.l4_succ (K : Nat)  (n : Nat) (pieces3 : (List (List UInt8))) (out4 : (List UInt8)) (i5 : Int) (bk1_0 : Int) (bk1_1 : (List Int)) : ammonitekeep_Text_Text.l4 K (n + 1) pieces3 out4 i5 bk1_0 bk1_1 =
 ((bif (decide (i5 < (List.length bk1_1 : Int))) then
 (bif (decide ((List.length out4 : Int) < (170 : Int))) then
 (chks [(decide ((0 : Int) ≤ i5)), (decide (i5 < (List.length bk1_1 : Int)))]
 ((ammonitebook_Within.f K ((IntKind.wrap .i64 ((List.getD bk1_1 (Int.toNat i5) (DTy.dflt (.int .i64))) + (bit2 .and .i64 bk1_0 (1 : Int)))), (0 : Int), (IntKind.wrap .i64 ((List.length pieces3 : Int) - (1 : Int))), ())).bind fun v_1 =>
 (chks [(decide ((0 : Int) ≤ v_1)), (decide (v_1 < (List.length pieces3 : Int)))]
 (chks [(catOk out4 (List.getD pieces3 (Int.toNat v_1) (DTy.dflt .str)))]
 (ammonitekeep_Text_Text.l4 K n pieces3 (out4 ++ (List.getD pieces3 (Int.toNat v_1) (DTy.dflt .str))) (IntKind.wrap .i64 (i5 + (1 : Int))) bk1_0 bk1_1)))))
 else
 (some out4))
 else
 (some out4)) : Option (List UInt8)) := by kernel_rfl
theorem ammonitekeep_Text_Text.tbOk (K : Nat) : TbOk Try.prog (ammonitekeep_Text_Text.tb K) := by
 intro e he
 simp only [ammonitekeep_Text_Text.tb, List.mem_cons, List.not_mem_nil, or_false] at he
 rcases he with rfl
 · exact ⟨ammonitebook_Within.ok K, enters_of Try.func23 (by kernel_rfl) rfl⟩
theorem ammonitekeep_Text_Text.itsOk : ItbOk Try.prog ammonitekeep_Text_Text.its := by
 intro e he
 simp only [ammonitekeep_Text_Text.its, List.mem_cons, List.not_mem_nil, or_false] at he
theorem ammonitekeep_Text_Text.ok (K : Nat) : PureC Try.prog 43 ⟨[T33], [.str], ammonitekeep_Text_Text.f K⟩ :=
 fn_sound (itOk _ _) (E := ammonitekeep_Text_Text.E K) (full_ok tys_ok ammonitekeep_Text_Text.itsOk (ammonitekeep_Text_Text.tbOk K) par_ok bld_ok bty_ok) mixed Try.func43 (c := ammonitekeep_Text_Text.code) (by kernel_rfl) (by kernel_rfl) (by decide) (by kernel_rfl)
noncomputable def ammonitekeep_Long.tb (K : Nat) : Tb := [(43, ⟨[T33], [.str], ammonitekeep_Text_Text.f K⟩), (23, ⟨[(.int .i64), (.int .i64), (.int .i64)], [(.int .i64)], ammonitebook_Within.f K⟩)]
noncomputable def ammonitekeep_Long.its : Itb := []
noncomputable def ammonitekeep_Long.code : Code := (Try.f94.body).getD .skip
noncomputable def ammonitekeep_Long.nm : Nat → NormSpec := lookN []
noncomputable def ammonitekeep_Long.pre : Nat → Option NormSpec := lookP []
noncomputable def ammonitekeep_Long.E (K : Nat) : Env := ⟨lookR tys, bty, fullCall ammonitekeep_Long.its (ammonitekeep_Long.tb K) bids⟩
noncomputable def ammonitekeep_Long.ret (K : Nat) : St → Option (resT [.str]).den := retA (ammonitekeep_Long.E K) [.str] [(.tmp 4)]
noncomputable def ammonitekeep_Long.C (K : Nat) : CEnv (resT [.str]).den := ⟨ammonitekeep_Long.E K, 21, K, ammonitekeep_Long.nm, ammonitekeep_Long.ret K, [], fun _ => false, ammonitekeep_Long.pre, lookG []⟩
noncomputable def ammonitekeep_Long.f (K : Nat) (x : (prodT [T33, (.int .i64)]).den) : Option (resT [.str]).den := exec ammonitekeep_Long.code (ammonitekeep_Long.C K) (ammonitekeep_Long.ret K) (init [T33, (.int .i64)] x)
theorem ammonitekeep_Long.eq (K : Nat) (k0 : D33) (n1 : Int) : ammonitekeep_Long.f K (k0, n1, ()) =
 (((ammonitekeep_Text_Text.f K ((k0.1, (k0.2.1, ())), ())).bind fun v_1 =>
 ((ammonitebook_Within.f K (n1, (0 : Int), (2 : Int), ())).bind fun v_2 =>
 (chks [(decide ((0 : Int) ≤ v_2)), (decide (v_2 < (List.length ([([] : List UInt8), ([97, 32, 99, 111, 109, 109, 111, 110, 32, 98, 101, 103, 105, 110, 110, 105, 110, 103, 32, 111, 102, 32, 115, 111, 109, 101, 32, 116, 101, 120, 116, 115, 44, 32, 108, 111, 110, 103, 32, 101, 110, 111, 117, 103, 104, 32, 102, 111, 114, 32, 100, 101, 108, 116, 97, 115, 32, 98, 101, 116, 119, 101, 101, 110, 32, 116, 104, 101, 115, 101, 59, 32] : List UInt8), ([97, 110, 111, 116, 104, 101, 114, 32, 98, 101, 103, 105, 110, 110, 105, 110, 103, 44, 32, 111, 102, 32, 111, 116, 104, 101, 114, 32, 116, 101, 120, 116, 115, 44, 32, 97, 115, 32, 108, 111, 110, 103, 32, 97, 115, 32, 116, 104, 101, 32, 102, 105, 114, 115, 116, 32, 111, 110, 101, 32, 105, 115, 44, 32, 111, 114, 32, 97, 32, 98, 105, 116, 32, 108, 111, 110, 103, 101, 114, 59, 32] : List UInt8)] : List (List UInt8)) : Int)))]
 (chks [(decide ((0 : Int) ≤ (if (160 : Int) < (List.length v_1 : Int) then (160 : Int) else (List.length v_1 : Int)))), (decide ((if (160 : Int) < (List.length v_1 : Int) then (160 : Int) else (List.length v_1 : Int)) ≤ (List.length v_1 : Int)))]
 (chks [(catOk (List.getD ([([] : List UInt8), ([97, 32, 99, 111, 109, 109, 111, 110, 32, 98, 101, 103, 105, 110, 110, 105, 110, 103, 32, 111, 102, 32, 115, 111, 109, 101, 32, 116, 101, 120, 116, 115, 44, 32, 108, 111, 110, 103, 32, 101, 110, 111, 117, 103, 104, 32, 102, 111, 114, 32, 100, 101, 108, 116, 97, 115, 32, 98, 101, 116, 119, 101, 101, 110, 32, 116, 104, 101, 115, 101, 59, 32] : List UInt8), ([97, 110, 111, 116, 104, 101, 114, 32, 98, 101, 103, 105, 110, 110, 105, 110, 103, 44, 32, 111, 102, 32, 111, 116, 104, 101, 114, 32, 116, 101, 120, 116, 115, 44, 32, 97, 115, 32, 108, 111, 110, 103, 32, 97, 115, 32, 116, 104, 101, 32, 102, 105, 114, 115, 116, 32, 111, 110, 101, 32, 105, 115, 44, 32, 111, 114, 32, 97, 32, 98, 105, 116, 32, 108, 111, 110, 103, 101, 114, 59, 32] : List UInt8)] : List (List UInt8)) (Int.toNat v_2) (DTy.dflt .str)) (cutL v_1 none (some (if (160 : Int) < (List.length v_1 : Int) then (160 : Int) else (List.length v_1 : Int)))))]
 (some ((List.getD ([([] : List UInt8), ([97, 32, 99, 111, 109, 109, 111, 110, 32, 98, 101, 103, 105, 110, 110, 105, 110, 103, 32, 111, 102, 32, 115, 111, 109, 101, 32, 116, 101, 120, 116, 115, 44, 32, 108, 111, 110, 103, 32, 101, 110, 111, 117, 103, 104, 32, 102, 111, 114, 32, 100, 101, 108, 116, 97, 115, 32, 98, 101, 116, 119, 101, 101, 110, 32, 116, 104, 101, 115, 101, 59, 32] : List UInt8), ([97, 110, 111, 116, 104, 101, 114, 32, 98, 101, 103, 105, 110, 110, 105, 110, 103, 44, 32, 111, 102, 32, 111, 116, 104, 101, 114, 32, 116, 101, 120, 116, 115, 44, 32, 97, 115, 32, 108, 111, 110, 103, 32, 97, 115, 32, 116, 104, 101, 32, 102, 105, 114, 115, 116, 32, 111, 110, 101, 32, 105, 115, 44, 32, 111, 114, 32, 97, 32, 98, 105, 116, 32, 108, 111, 110, 103, 101, 114, 59, 32] : List UInt8)] : List (List UInt8)) (Int.toNat v_2) (DTy.dflt .str)) ++ (cutL v_1 none (some (if (160 : Int) < (List.length v_1 : Int) then (160 : Int) else (List.length v_1 : Int))))))))))) : Option (List UInt8)) := by kernel_rfl
theorem ammonitekeep_Long.tbOk (K : Nat) : TbOk Try.prog (ammonitekeep_Long.tb K) := by
 intro e he
 simp only [ammonitekeep_Long.tb, List.mem_cons, List.not_mem_nil, or_false] at he
 rcases he with rfl | rfl
 · exact ⟨ammonitekeep_Text_Text.ok K, enters_of Try.func43 (by kernel_rfl) rfl⟩
 · exact ⟨ammonitebook_Within.ok K, enters_of Try.func23 (by kernel_rfl) rfl⟩
theorem ammonitekeep_Long.itsOk : ItbOk Try.prog ammonitekeep_Long.its := by
 intro e he
 simp only [ammonitekeep_Long.its, List.mem_cons, List.not_mem_nil, or_false] at he
theorem ammonitekeep_Long.ok (K : Nat) : PureC Try.prog 94 ⟨[T33, (.int .i64)], [.str], ammonitekeep_Long.f K⟩ :=
 fn_sound (itOk _ _) (E := ammonitekeep_Long.E K) (full_ok tys_ok ammonitekeep_Long.itsOk (ammonitekeep_Long.tbOk K) par_ok bld_ok bty_ok) mixed Try.func94 (c := ammonitekeep_Long.code) (by kernel_rfl) (by kernel_rfl) (by decide) (by kernel_rfl)
noncomputable def ammonitekeep_Content.tb (K : Nat) : Tb := [(23, ⟨[(.int .i64), (.int .i64), (.int .i64)], [(.int .i64)], ammonitebook_Within.f K⟩), (94, ⟨[T33, (.int .i64)], [.str], ammonitekeep_Long.f K⟩)]
noncomputable def ammonitekeep_Content.its : Itb := []
noncomputable def ammonitekeep_Content.code : Code := (Try.f78.body).getD .skip
noncomputable def ammonitekeep_Content.nm : Nat → NormSpec := lookN []
noncomputable def ammonitekeep_Content.pre : Nat → Option NormSpec := lookP []
noncomputable def ammonitekeep_Content.E (K : Nat) : Env := ⟨lookR tys, bty, fullCall ammonitekeep_Content.its (ammonitekeep_Content.tb K) bids⟩
noncomputable def ammonitekeep_Content.ret (K : Nat) : St → Option (resT [.str]).den := retA (ammonitekeep_Content.E K) [.str] [(.tmp 2)]
noncomputable def ammonitekeep_Content.C (K : Nat) : CEnv (resT [.str]).den := ⟨ammonitekeep_Content.E K, 16, K, ammonitekeep_Content.nm, ammonitekeep_Content.ret K, [], fun _ => false, ammonitekeep_Content.pre, lookG []⟩
noncomputable def ammonitekeep_Content.f (K : Nat) (x : (prodT [(.int .i64)]).den) : Option (resT [.str]).den := exec ammonitekeep_Content.code (ammonitekeep_Content.C K) (ammonitekeep_Content.ret K) (init [(.int .i64)] x)
theorem ammonitekeep_Content.eq (K : Nat) (n0 : Int) : ammonitekeep_Content.f K (n0, ()) =
 (((ammonitebook_Within.f K (n0, (0 : Int), (15 : Int), ())).bind fun v_1 =>
 ((ammonitekeep_Long.f K ((0, (([v_1, (IntKind.wrap .i64 (Int.tdiv v_1 (2 : Int))), (IntKind.wrap .i64 (Int.tdiv v_1 (4 : Int)))] : List Int), ())), (Int.tmod v_1 (3 : Int)), ())).bind fun v_2 =>
 (some v_2))) : Option (List UInt8)) := by kernel_rfl
theorem ammonitekeep_Content.tbOk (K : Nat) : TbOk Try.prog (ammonitekeep_Content.tb K) := by
 intro e he
 simp only [ammonitekeep_Content.tb, List.mem_cons, List.not_mem_nil, or_false] at he
 rcases he with rfl | rfl
 · exact ⟨ammonitebook_Within.ok K, enters_of Try.func23 (by kernel_rfl) rfl⟩
 · exact ⟨ammonitekeep_Long.ok K, enters_of Try.func94 (by kernel_rfl) rfl⟩
theorem ammonitekeep_Content.itsOk : ItbOk Try.prog ammonitekeep_Content.its := by
 intro e he
 simp only [ammonitekeep_Content.its, List.mem_cons, List.not_mem_nil, or_false] at he
theorem ammonitekeep_Content.ok (K : Nat) : PureC Try.prog 78 ⟨[(.int .i64)], [.str], ammonitekeep_Content.f K⟩ :=
 fn_sound (itOk _ _) (E := ammonitekeep_Content.E K) (full_ok tys_ok ammonitekeep_Content.itsOk (ammonitekeep_Content.tbOk K) par_ok bld_ok bty_ok) mixed Try.func78 (c := ammonitekeep_Content.code) (by kernel_rfl) (by kernel_rfl) (by decide) (by kernel_rfl)
noncomputable def ammonitekeep_Name.tb (K : Nat) : Tb := [(78, ⟨[(.int .i64)], [.str], ammonitekeep_Content.f K⟩), (20, ⟨[.str], [.str], ammoniteref1_Sum.f K⟩)]
noncomputable def ammonitekeep_Name.its : Itb := []
noncomputable def ammonitekeep_Name.code : Code := (Try.f44.body).getD .skip
noncomputable def ammonitekeep_Name.nm : Nat → NormSpec := lookN []
noncomputable def ammonitekeep_Name.pre : Nat → Option NormSpec := lookP []
noncomputable def ammonitekeep_Name.E (K : Nat) : Env := ⟨lookR tys, bty, fullCall ammonitekeep_Name.its (ammonitekeep_Name.tb K) bids⟩
noncomputable def ammonitekeep_Name.ret (K : Nat) : St → Option (resT [.str]).den := retA (ammonitekeep_Name.E K) [.str] [(.tmp 2)]
noncomputable def ammonitekeep_Name.C (K : Nat) : CEnv (resT [.str]).den := ⟨ammonitekeep_Name.E K, 6, K, ammonitekeep_Name.nm, ammonitekeep_Name.ret K, [], fun _ => false, ammonitekeep_Name.pre, lookG []⟩
noncomputable def ammonitekeep_Name.f (K : Nat) (x : (prodT [(.int .i64)]).den) : Option (resT [.str]).den := exec ammonitekeep_Name.code (ammonitekeep_Name.C K) (ammonitekeep_Name.ret K) (init [(.int .i64)] x)
theorem ammonitekeep_Name.eq (K : Nat) (n0 : Int) : ammonitekeep_Name.f K (n0, ()) =
 (((ammonitekeep_Content.f K (n0, ())).bind fun v_1 =>
 ((ammoniteref1_Sum.f K (v_1, ())).bind fun v_2 =>
 (some v_2))) : Option (List UInt8)) := by kernel_rfl
theorem ammonitekeep_Name.tbOk (K : Nat) : TbOk Try.prog (ammonitekeep_Name.tb K) := by
 intro e he
 simp only [ammonitekeep_Name.tb, List.mem_cons, List.not_mem_nil, or_false] at he
 rcases he with rfl | rfl
 · exact ⟨ammonitekeep_Content.ok K, enters_of Try.func78 (by kernel_rfl) rfl⟩
 · exact ⟨ammoniteref1_Sum.ok K, enters_of Try.func20 (by kernel_rfl) rfl⟩
theorem ammonitekeep_Name.itsOk : ItbOk Try.prog ammonitekeep_Name.its := by
 intro e he
 simp only [ammonitekeep_Name.its, List.mem_cons, List.not_mem_nil, or_false] at he
theorem ammonitekeep_Name.ok (K : Nat) : PureC Try.prog 44 ⟨[(.int .i64)], [.str], ammonitekeep_Name.f K⟩ :=
 fn_sound (itOk _ _) (E := ammonitekeep_Name.E K) (full_ok tys_ok ammonitekeep_Name.itsOk (ammonitekeep_Name.tbOk K) par_ok bld_ok bty_ok) mixed Try.func44 (c := ammonitekeep_Name.code) (by kernel_rfl) (by kernel_rfl) (by decide) (by kernel_rfl)
noncomputable def ammonitekeep_pick.tb (K : Nat) : Tb := []
noncomputable def ammonitekeep_pick.its : Itb := []
noncomputable def ammonitekeep_pick.code : Code := (Try.f79.body).getD .skip
noncomputable def ammonitekeep_pick.nm : Nat → NormSpec := lookN []
noncomputable def ammonitekeep_pick.pre : Nat → Option NormSpec := lookP []
noncomputable def ammonitekeep_pick.E (K : Nat) : Env := ⟨lookR tys, bty, fullCall ammonitekeep_pick.its (ammonitekeep_pick.tb K) bids⟩
noncomputable def ammonitekeep_pick.ret (K : Nat) : St → Option (resT [(.int .i64)]).den := retA (ammonitekeep_pick.E K) [(.int .i64)] [(.tmp 4)]
noncomputable def ammonitekeep_pick.C (K : Nat) : CEnv (resT [(.int .i64)]).den := ⟨ammonitekeep_pick.E K, 15, K, ammonitekeep_pick.nm, ammonitekeep_pick.ret K, [], fun _ => false, ammonitekeep_pick.pre, lookG []⟩
noncomputable def ammonitekeep_pick.f (K : Nat) (x : (prodT [(.slice (.int .i64)), (.int .i64)]).den) : Option (resT [(.int .i64)]).den := exec ammonitekeep_pick.code (ammonitekeep_pick.C K) (ammonitekeep_pick.ret K) (init [(.slice (.int .i64)), (.int .i64)] x)
theorem ammonitekeep_pick.eq (K : Nat) (l0 : (List Int)) (i1 : Int) : ammonitekeep_pick.f K (l0, i1, ()) =
 ((bif (decide ((List.length l0 : Int) = (0 : Int))) then
 (some (0 : Int))
 else
 (chks [(!(decide ((List.length l0 : Int) = (0 : Int))))]
 (chks [(decide ((0 : Int) ≤ (Int.tmod i1 (List.length l0 : Int)))), (decide ((Int.tmod i1 (List.length l0 : Int)) < (List.length l0 : Int)))]
 (some (List.getD l0 (Int.toNat (Int.tmod i1 (List.length l0 : Int))) (DTy.dflt (.int .i64))))))) : Option Int) := by kernel_rfl
theorem ammonitekeep_pick.tbOk (K : Nat) : TbOk Try.prog (ammonitekeep_pick.tb K) := by
 intro e he
 simp only [ammonitekeep_pick.tb, List.mem_cons, List.not_mem_nil, or_false] at he
theorem ammonitekeep_pick.itsOk : ItbOk Try.prog ammonitekeep_pick.its := by
 intro e he
 simp only [ammonitekeep_pick.its, List.mem_cons, List.not_mem_nil, or_false] at he
theorem ammonitekeep_pick.ok (K : Nat) : PureC Try.prog 79 ⟨[(.slice (.int .i64)), (.int .i64)], [(.int .i64)], ammonitekeep_pick.f K⟩ :=
 fn_sound (itOk _ _) (E := ammonitekeep_pick.E K) (full_ok tys_ok ammonitekeep_pick.itsOk (ammonitekeep_pick.tbOk K) par_ok bld_ok bty_ok) mixed Try.func79 (c := ammonitekeep_pick.code) (by kernel_rfl) (by kernel_rfl) (by decide) (by kernel_rfl)
noncomputable def ammonitekeep_words.tb (K : Nat) : Tb := []
noncomputable def ammonitekeep_words.its : Itb := []
noncomputable def ammonitekeep_words.code : Code := (Try.f45.body).getD .skip
noncomputable def ammonitekeep_words.nm : Nat → NormSpec := lookN []
noncomputable def ammonitekeep_words.pre : Nat → Option NormSpec := lookP []
noncomputable def ammonitekeep_words.E (K : Nat) : Env := ⟨lookR tys, bty, fullCall ammonitekeep_words.its (ammonitekeep_words.tb K) bids⟩
noncomputable def ammonitekeep_words.ret (K : Nat) : St → Option (resT [(.slice .str)]).den := retA (ammonitekeep_words.E K) [(.slice .str)] [(.tmp 0)]
noncomputable def ammonitekeep_words.C (K : Nat) : CEnv (resT [(.slice .str)]).den := ⟨ammonitekeep_words.E K, 2, K, ammonitekeep_words.nm, ammonitekeep_words.ret K, [], fun _ => false, ammonitekeep_words.pre, lookG []⟩
noncomputable def ammonitekeep_words.f (K : Nat) (x : (prodT []).den) : Option (resT [(.slice .str)]).den := exec ammonitekeep_words.code (ammonitekeep_words.C K) (ammonitekeep_words.ret K) (init [] x)
theorem ammonitekeep_words.eq (K : Nat)  : ammonitekeep_words.f K (()) =
 ((some ([([97] : List UInt8), ([98, 114, 97, 110, 99, 104] : List UInt8), ([99, 46, 116, 120, 116] : List UInt8), ([100, 47, 101] : List UInt8), ([114, 101, 108, 45, 49] : List UInt8), ([122, 122] : List UInt8)] : List (List UInt8))) : Option (List (List UInt8))) := by kernel_rfl
theorem ammonitekeep_words.tbOk (K : Nat) : TbOk Try.prog (ammonitekeep_words.tb K) := by
 intro e he
 simp only [ammonitekeep_words.tb, List.mem_cons, List.not_mem_nil, or_false] at he
theorem ammonitekeep_words.itsOk : ItbOk Try.prog ammonitekeep_words.its := by
 intro e he
 simp only [ammonitekeep_words.its, List.mem_cons, List.not_mem_nil, or_false] at he
theorem ammonitekeep_words.ok (K : Nat) : PureC Try.prog 45 ⟨[], [(.slice .str)], ammonitekeep_words.f K⟩ :=
 fn_sound (itOk _ _) (E := ammonitekeep_words.E K) (full_ok tys_ok ammonitekeep_words.itsOk (ammonitekeep_words.tbOk K) par_ok bld_ok bty_ok) mixed Try.func45 (c := ammonitekeep_words.code) (by kernel_rfl) (by kernel_rfl) (by decide) (by kernel_rfl)
noncomputable def ammonitekeep_tagOps.tb (K : Nat) : Tb := [(45, ⟨[], [(.slice .str)], ammonitekeep_words.f K⟩), (23, ⟨[(.int .i64), (.int .i64), (.int .i64)], [(.int .i64)], ammonitebook_Within.f K⟩), (79, ⟨[(.slice (.int .i64)), (.int .i64)], [(.int .i64)], ammonitekeep_pick.f K⟩), (44, ⟨[(.int .i64)], [.str], ammonitekeep_Name.f K⟩)]
noncomputable def ammonitekeep_tagOps.its : Itb := []
noncomputable def ammonitekeep_tagOps.code : Code := (Try.f46.body).getD .skip
noncomputable def ammonitekeep_tagOps.nm : Nat → NormSpec := lookN [(3, ⟨[(0, (.data (.slice (.int .i64)))), (1, (.data (.slice (.int .i64)))), (2, (.data .bool)), (7, (.vec T42)), (12, (.data (.slice .str))), (13, (.data (.int .i64))), (14, (.data (.int .i64)))], [], []⟩)]
noncomputable def ammonitekeep_tagOps.pre : Nat → Option NormSpec := lookP [(8, ⟨[(0, (.data (.slice (.int .i64)))), (1, (.data (.slice (.int .i64)))), (2, (.data .bool)), (7, (.vec T42)), (8, (.data (.int .i64))), (9, (.data .str)), (10, (.data (.int .i64))), (12, (.data (.slice .str))), (13, (.data (.int .i64))), (14, (.data (.int .i64)))], [], []⟩), (12, ⟨[(0, (.data (.slice (.int .i64)))), (1, (.data (.slice (.int .i64)))), (2, (.data .bool)), (7, (.vec T42)), (8, (.data (.int .i64))), (11, .raw), (12, (.data (.slice .str))), (13, (.data (.int .i64))), (14, (.data (.int .i64)))], [(11, [(.data (.int .u8)), (.data .str), (.data .str), (.data .str)])], []⟩), (14, ⟨[(0, (.data (.slice (.int .i64)))), (1, (.data (.slice (.int .i64)))), (2, (.data .bool)), (7, (.vec T42)), (11, .raw), (12, (.data (.slice .str))), (13, (.data (.int .i64))), (14, (.data (.int .i64)))], [(11, [(.data (.int .u8)), (.data .str), (.data .str), (.data .str)])], []⟩)]
noncomputable def ammonitekeep_tagOps.E (K : Nat) : Env := ⟨lookR tys, bty, fullCall ammonitekeep_tagOps.its (ammonitekeep_tagOps.tb K) bids⟩
noncomputable def ammonitekeep_tagOps.ret (K : Nat) : St → Option (resT [(.slice T42)]).den := retA (ammonitekeep_tagOps.E K) [(.slice T42)] [(.tmp 6)]
noncomputable def ammonitekeep_tagOps.C (K : Nat) : CEnv (resT [(.slice T42)]).den := ⟨ammonitekeep_tagOps.E K, 64, K, ammonitekeep_tagOps.nm, ammonitekeep_tagOps.ret K, [], fun _ => false, ammonitekeep_tagOps.pre, lookG [(8, 0), (12, 1), (14, 2)]⟩
noncomputable def ammonitekeep_tagOps.f (K : Nat) (x : (prodT [(.slice (.int .i64)), (.slice (.int .i64)), .bool]).den) : Option (resT [(.slice T42)]).den := exec ammonitekeep_tagOps.code (ammonitekeep_tagOps.C K) (ammonitekeep_tagOps.ret K) (init [(.slice (.int .i64)), (.slice (.int .i64)), .bool] x)
noncomputable def ammonitekeep_tagOps.m3 (tags0 : (List Int)) (vals1 : (List Int)) (own2 : Bool) (out7 : (List D42)) (t12 : (List (List UInt8))) (t13 : Int) (t14 : Int) : St := mkSt [(0, (.d (.slice (.int .i64)) (tags0 : (List Int)))), (1, (.d (.slice (.int .i64)) (vals1 : (List Int)))), (2, (.d .bool (own2 : Bool))), (7, (.vs 7 0 T42 (out7 : List D42))), (12, (.d (.slice .str) (t12 : (List (List UInt8))))), (13, (.d (.int .i64) (t13 : Int))), (14, (.d (.int .i64) (t14 : Int)))] [(7, (.vec T42 0))]
noncomputable def ammonitekeep_tagOps.r3 (K : Nat)  (n : Nat) : St → Option (List D42) := loopAt [.r, .r, .l, .r, .b] ammonitekeep_tagOps.code (ammonitekeep_tagOps.C K) (ammonitekeep_tagOps.ret K) [] n
noncomputable def ammonitekeep_tagOps.l3 (K : Nat)  (n : Nat) (tags0 : (List Int)) (vals1 : (List Int)) (own2 : Bool) (out7 : (List D42)) (t12 : (List (List UInt8))) (t13 : Int) (t14 : Int) : Option (List D42) := ammonitekeep_tagOps.r3 K n (ammonitekeep_tagOps.m3 tags0 vals1 own2 out7 t12 t13 t14)
noncomputable def ammonitekeep_tagOps.mj8 (tags0 : (List Int)) (vals1 : (List Int)) (own2 : Bool) (out7 : (List D42)) (i8 : Int) (w9 : (List UInt8)) (n10 : Int) (t12 : (List (List UInt8))) (t13 : Int) (t14 : Int) : St := mkSt [(0, (.d (.slice (.int .i64)) (tags0 : (List Int)))), (1, (.d (.slice (.int .i64)) (vals1 : (List Int)))), (2, (.d .bool (own2 : Bool))), (7, (.vs 7 0 T42 (out7 : List D42))), (8, (.d (.int .i64) (i8 : Int))), (9, (.d .str (w9 : (List UInt8)))), (10, (.d (.int .i64) (n10 : Int))), (12, (.d (.slice .str) (t12 : (List (List UInt8))))), (13, (.d (.int .i64) (t13 : Int))), (14, (.d (.int .i64) (t14 : Int)))] [(7, (.vec T42 0))]
noncomputable def ammonitekeep_tagOps.j8 (K : Nat) (ρ3 : St → Option (List D42)) (tags0 : (List Int)) (vals1 : (List Int)) (own2 : Bool) (out7 : (List D42)) (i8 : Int) (w9 : (List UInt8)) (n10 : Int) (t12 : (List (List UInt8))) (t13 : Int) (t14 : Int) : Option (List D42) := pointAt [.r, .r, .l, .r, .b, .o, .r, .r, .l, .b, .r, .r, .r, .l, .l] ammonitekeep_tagOps.code (ammonitekeep_tagOps.C K) (ammonitekeep_tagOps.ret K) [ρ3] (ammonitekeep_tagOps.mj8 tags0 vals1 own2 out7 i8 w9 n10 t12 t13 t14)
noncomputable def ammonitekeep_tagOps.mj12 (tags0 : (List Int)) (vals1 : (List Int)) (own2 : Bool) (out7 : (List D42)) (i8 : Int) (t12 : (List (List UInt8))) (t13 : Int) (t14 : Int) (bt11_0 : Int) (bt11_1 : (List UInt8)) (bt11_2 : (List UInt8)) (bt11_3 : (List UInt8)) : St := mkSt [(0, (.d (.slice (.int .i64)) (tags0 : (List Int)))), (1, (.d (.slice (.int .i64)) (vals1 : (List Int)))), (2, (.d .bool (own2 : Bool))), (7, (.vs 7 0 T42 (out7 : List D42))), (8, (.d (.int .i64) (i8 : Int))), (11, (.ptr 11 0)), (12, (.d (.slice .str) (t12 : (List (List UInt8))))), (13, (.d (.int .i64) (t13 : Int))), (14, (.d (.int .i64) (t14 : Int)))] [(7, (.vec T42 0)), (11, (.box [(.d (.int .u8) (bt11_0 : Int)), (.d .str (bt11_1 : (List UInt8))), (.d .str (bt11_2 : (List UInt8))), (.d .str (bt11_3 : (List UInt8)))]))]
noncomputable def ammonitekeep_tagOps.j12 (K : Nat) (ρ3 : St → Option (List D42)) (tags0 : (List Int)) (vals1 : (List Int)) (own2 : Bool) (out7 : (List D42)) (i8 : Int) (t12 : (List (List UInt8))) (t13 : Int) (t14 : Int) (bt11_0 : Int) (bt11_1 : (List UInt8)) (bt11_2 : (List UInt8)) (bt11_3 : (List UInt8)) : Option (List D42) := pointAt [.r, .r, .l, .r, .b, .o, .r, .r, .l, .b, .r, .r, .r, .r, .r, .r, .l, .l] ammonitekeep_tagOps.code (ammonitekeep_tagOps.C K) (ammonitekeep_tagOps.ret K) [ρ3] (ammonitekeep_tagOps.mj12 tags0 vals1 own2 out7 i8 t12 t13 t14 bt11_0 bt11_1 bt11_2 bt11_3)
noncomputable def ammonitekeep_tagOps.mj14 (tags0 : (List Int)) (vals1 : (List Int)) (own2 : Bool) (out7 : (List D42)) (t12 : (List (List UInt8))) (t13 : Int) (t14 : Int) (bt11_0 : Int) (bt11_1 : (List UInt8)) (bt11_2 : (List UInt8)) (bt11_3 : (List UInt8)) : St := mkSt [(0, (.d (.slice (.int .i64)) (tags0 : (List Int)))), (1, (.d (.slice (.int .i64)) (vals1 : (List Int)))), (2, (.d .bool (own2 : Bool))), (7, (.vs 7 0 T42 (out7 : List D42))), (11, (.ptr 11 0)), (12, (.d (.slice .str) (t12 : (List (List UInt8))))), (13, (.d (.int .i64) (t13 : Int))), (14, (.d (.int .i64) (t14 : Int)))] [(7, (.vec T42 0)), (11, (.box [(.d (.int .u8) (bt11_0 : Int)), (.d .str (bt11_1 : (List UInt8))), (.d .str (bt11_2 : (List UInt8))), (.d .str (bt11_3 : (List UInt8)))]))]
noncomputable def ammonitekeep_tagOps.j14 (K : Nat) (ρ3 : St → Option (List D42)) (tags0 : (List Int)) (vals1 : (List Int)) (own2 : Bool) (out7 : (List D42)) (t12 : (List (List UInt8))) (t13 : Int) (t14 : Int) (bt11_0 : Int) (bt11_1 : (List UInt8)) (bt11_2 : (List UInt8)) (bt11_3 : (List UInt8)) : Option (List D42) := pointAt [.r, .r, .l, .r, .b, .o, .r, .r, .l, .b, .r, .r, .r, .r, .r, .r, .r] ammonitekeep_tagOps.code (ammonitekeep_tagOps.C K) (ammonitekeep_tagOps.ret K) [ρ3] (ammonitekeep_tagOps.mj14 tags0 vals1 own2 out7 t12 t13 t14 bt11_0 bt11_1 bt11_2 bt11_3)
theorem ammonitekeep_tagOps.eq (K : Nat) (tags0 : (List Int)) (vals1 : (List Int)) (own2 : Bool) : ammonitekeep_tagOps.f K (tags0, vals1, own2, ()) =
 (((ammonitekeep_words.f K (())).bind fun v_1 =>
 (ammonitekeep_tagOps.l3 K K tags0 vals1 own2 ([] : (List D42)) v_1 (List.length v_1 : Int) (0 : Int))) : Option (List D42)) := by kernel_rfl
theorem ammonitekeep_tagOps.l3_succ (K : Nat)  (n : Nat) (tags0 : (List Int)) (vals1 : (List Int)) (own2 : Bool) (out7 : (List D42)) (t12 : (List (List UInt8))) (t13 : Int) (t14 : Int) : ammonitekeep_tagOps.l3 K (n + 1) tags0 vals1 own2 out7 t12 t13 t14 =
 ((bif (decide (t14 < t13)) then
 (chks [(decide ((0 : Int) ≤ t14)), (decide (t14 < (List.length t12 : Int)))]
 (bif (decide (t14 < (List.length tags0 : Int))) then
 (chks [(decide ((0 : Int) ≤ t14)), (decide (t14 < (List.length tags0 : Int)))]
 ((ammonitebook_Within.f K ((List.getD tags0 (Int.toNat t14) (DTy.dflt (.int .i64))), (0 : Int), (7 : Int), ())).bind fun v_1 =>
 (ammonitekeep_tagOps.j8 K (ammonitekeep_tagOps.r3 K n) tags0 vals1 own2 out7 t14 (List.getD t12 (Int.toNat t14) (DTy.dflt .str)) v_1 t12 t13 t14)))
 else
 (ammonitekeep_tagOps.j8 K (ammonitekeep_tagOps.r3 K n) tags0 vals1 own2 out7 t14 (List.getD t12 (Int.toNat t14) (DTy.dflt .str)) (0 : Int) t12 t13 t14)))
 else
 (some out7)) : Option (List D42)) := by kernel_rfl
theorem ammonitekeep_tagOps.j8_eq {K : Nat} (hK : 1000 ≤ K) (ρ3 : St → Option (List D42)) (tags0 : (List Int)) (vals1 : (List Int)) (own2 : Bool) (out7 : (List D42)) (i8 : Int) (w9 : (List UInt8)) (n10 : Int) (t12 : (List (List UInt8))) (t13 : Int) (t14 : Int) : ammonitekeep_tagOps.j8 K ρ3 tags0 vals1 own2 out7 i8 w9 n10 t12 t13 t14 =
 ((bif (decide (n10 < (4 : Int))) then
 (ρ3 (ammonitekeep_tagOps.m3 tags0 vals1 own2 out7 t12 t13 (IntKind.wrap .i64 (t14 + (1 : Int)))))
 else
 (bif (decide ((2 : Int) < (List.length out7 : Int))) then
 (ρ3 (ammonitekeep_tagOps.m3 tags0 vals1 own2 out7 t12 t13 (IntKind.wrap .i64 (t14 + (1 : Int)))))
 else
 (chks [(decide ((0 : Int) ≤ (IntKind.wrap .i64 (n10 - (4 : Int))))), (decide ((IntKind.wrap .i64 (n10 - (4 : Int))) < (List.length ([43, 42, 45, 42] : List UInt8) : Int)))]
 (bif (!own2) then
 ((ammonitekeep_pick.f K (vals1, i8, ())).bind fun v_1 =>
 ((ammonitekeep_Name.f K (v_1, ())).bind fun v_2 =>
 (ammonitekeep_tagOps.j12 K ρ3 tags0 vals1 own2 out7 i8 t12 t13 t14 ((List.getD ([43, 42, 45, 42] : List UInt8) (Int.toNat (IntKind.wrap .i64 (n10 - (4 : Int)))) 0).toNat : Int) w9 v_2 [])))
 else
 (ammonitekeep_tagOps.j12 K ρ3 tags0 vals1 own2 out7 i8 t12 t13 t14 ((List.getD ([43, 42, 45, 42] : List UInt8) (Int.toNat (IntKind.wrap .i64 (n10 - (4 : Int)))) 0).toNat : Int) w9 ([42] : List UInt8) []))))) : Option (List D42)) := by
 obtain ⟨K, rfl⟩ : ∃ m, K = m + 1 := ⟨K - 1, by omega⟩
 kernel_rfl
theorem ammonitekeep_tagOps.j12_eq {K : Nat} (hK : 1000 ≤ K) (ρ3 : St → Option (List D42)) (tags0 : (List Int)) (vals1 : (List Int)) (own2 : Bool) (out7 : (List D42)) (i8 : Int) (t12 : (List (List UInt8))) (t13 : Int) (t14 : Int) (bt11_0 : Int) (bt11_1 : (List UInt8)) (bt11_2 : (List UInt8)) (bt11_3 : (List UInt8)) : ammonitekeep_tagOps.j12 K ρ3 tags0 vals1 own2 out7 i8 t12 t13 t14 bt11_0 bt11_1 bt11_2 bt11_3 =
 ((bif (!(decide (bt11_0 = (45 : Int)))) then
 ((ammonitekeep_pick.f K (vals1, i8, ())).bind fun v_1 =>
 ((ammonitebook_Within.f K (v_1, (0 : Int), (3 : Int), ())).bind fun v_2 =>
 (chks [(decide ((0 : Int) ≤ v_2)), (decide (v_2 < (List.length ([([] : List UInt8), ([116, 114, 117, 110, 107] : List UInt8), ([98, 32, 111, 110, 101] : List UInt8), ([120] : List UInt8)] : List (List UInt8)) : Int)))]
 (ammonitekeep_tagOps.j14 K ρ3 tags0 vals1 own2 out7 t12 t13 t14 bt11_0 bt11_1 bt11_2 (List.getD ([([] : List UInt8), ([116, 114, 117, 110, 107] : List UInt8), ([98, 32, 111, 110, 101] : List UInt8), ([120] : List UInt8)] : List (List UInt8)) (Int.toNat v_2) (DTy.dflt .str))))))
 else
 (ammonitekeep_tagOps.j14 K ρ3 tags0 vals1 own2 out7 t12 t13 t14 bt11_0 bt11_1 bt11_2 bt11_3)) : Option (List D42)) := by
 obtain ⟨K, rfl⟩ : ∃ m, K = m + 2 := ⟨K - 2, by omega⟩
 kernel_rfl
theorem ammonitekeep_tagOps.j14_eq {K : Nat} (hK : 1000 ≤ K) (ρ3 : St → Option (List D42)) (tags0 : (List Int)) (vals1 : (List Int)) (own2 : Bool) (out7 : (List D42)) (t12 : (List (List UInt8))) (t13 : Int) (t14 : Int) (bt11_0 : Int) (bt11_1 : (List UInt8)) (bt11_2 : (List UInt8)) (bt11_3 : (List UInt8)) : ammonitekeep_tagOps.j14 K ρ3 tags0 vals1 own2 out7 t12 t13 t14 bt11_0 bt11_1 bt11_2 bt11_3 =
 ((chks [(growOk (List.length out7) (List.length ([(bt11_0, (bt11_1, (bt11_2, (bt11_3, ()))))] : List D42)) 56)]
 (ρ3 (ammonitekeep_tagOps.m3 tags0 vals1 own2 (out7 ++ ([(bt11_0, (bt11_1, (bt11_2, (bt11_3, ()))))] : List D42)) t12 t13 (IntKind.wrap .i64 (t14 + (1 : Int)))))) : Option (List D42)) := by
 obtain ⟨K, rfl⟩ : ∃ m, K = m + 3 := ⟨K - 3, by omega⟩
 kernel_rfl
theorem ammonitekeep_tagOps.tbOk (K : Nat) : TbOk Try.prog (ammonitekeep_tagOps.tb K) := by
 intro e he
 simp only [ammonitekeep_tagOps.tb, List.mem_cons, List.not_mem_nil, or_false] at he
 rcases he with rfl | rfl | rfl | rfl
 · exact ⟨ammonitekeep_words.ok K, enters_of Try.func45 (by kernel_rfl) rfl⟩
 · exact ⟨ammonitebook_Within.ok K, enters_of Try.func23 (by kernel_rfl) rfl⟩
 · exact ⟨ammonitekeep_pick.ok K, enters_of Try.func79 (by kernel_rfl) rfl⟩
 · exact ⟨ammonitekeep_Name.ok K, enters_of Try.func44 (by kernel_rfl) rfl⟩
theorem ammonitekeep_tagOps.itsOk : ItbOk Try.prog ammonitekeep_tagOps.its := by
 intro e he
 simp only [ammonitekeep_tagOps.its, List.mem_cons, List.not_mem_nil, or_false] at he
theorem ammonitekeep_tagOps.ok (K : Nat) : PureC Try.prog 46 ⟨[(.slice (.int .i64)), (.slice (.int .i64)), .bool], [(.slice T42)], ammonitekeep_tagOps.f K⟩ :=
 fn_sound (itOk _ _) (E := ammonitekeep_tagOps.E K) (full_ok tys_ok ammonitekeep_tagOps.itsOk (ammonitekeep_tagOps.tbOk K) par_ok bld_ok bty_ok) mixed Try.func46 (c := ammonitekeep_tagOps.code) (by kernel_rfl) (by kernel_rfl) (by decide) (by kernel_rfl)
noncomputable def ammonitekeep_Checkin_Checkin.tb (K : Nat) : Tb := [(23, ⟨[(.int .i64), (.int .i64), (.int .i64)], [(.int .i64)], ammonitebook_Within.f K⟩), (43, ⟨[T33], [.str], ammonitekeep_Text_Text.f K⟩), (44, ⟨[(.int .i64)], [.str], ammonitekeep_Name.f K⟩), (45, ⟨[], [(.slice .str)], ammonitekeep_words.f K⟩), (46, ⟨[(.slice (.int .i64)), (.slice (.int .i64)), .bool], [(.slice T42)], ammonitekeep_tagOps.f K⟩)]
noncomputable def ammonitekeep_Checkin_Checkin.its : Itb := []
noncomputable def ammonitekeep_Checkin_Checkin.code : Code := (Try.f13.body).getD .skip
noncomputable def ammonitekeep_Checkin_Checkin.nm : Nat → NormSpec := lookN [(7, ⟨[(1, .raw), (2, .raw), (3, .raw), (38, (.data (.slice .str))), (39, (.data (.int .i64))), (40, (.data (.int .i64)))], [(1, [(.data (.int .i64)), (.data (.int .i64)), (.data (.int .i64)), (.data (.int .i64)), (.data (.slice (.int .i64))), (.data (.slice (.int .i64))), (.data (.slice (.int .i64))), (.data (.slice (.int .i64))), (.data (.slice (.int .i64)))]), (2, [(.data .str), (.data .str), (.data (.int .i64)), .raw, .raw, .raw, (.data .str)]), (3, [(.data .str), (.data .str), (.data (.int .i64)), (.vec T56), .raw, .raw, (.data .str)])], []⟩), (16, ⟨[(1, .raw), (2, .raw), (3, .raw), (8, (.data (.int .i64)))], [(1, [(.data (.int .i64)), (.data (.int .i64)), (.data (.int .i64)), (.data (.int .i64)), (.data (.slice (.int .i64))), (.data (.slice (.int .i64))), (.data (.slice (.int .i64))), (.data (.slice (.int .i64))), (.data (.slice (.int .i64)))]), (2, [(.data .str), (.data .str), (.data (.int .i64)), .raw, .raw, .raw, (.data .str)]), (3, [(.data .str), (.data .str), (.data (.int .i64)), (.vec T56), (.vec .str), .raw, (.data .str)])], []⟩)]
noncomputable def ammonitekeep_Checkin_Checkin.pre : Nat → Option NormSpec := lookP []
noncomputable def ammonitekeep_Checkin_Checkin.E (K : Nat) : Env := ⟨lookR tys, bty, fullCall ammonitekeep_Checkin_Checkin.its (ammonitekeep_Checkin_Checkin.tb K) bids⟩
noncomputable def ammonitekeep_Checkin_Checkin.ret (K : Nat) : St → Option (resT [T27]).den := retA (ammonitekeep_Checkin_Checkin.E K) [T27] [(.cell 2 27)]
noncomputable def ammonitekeep_Checkin_Checkin.C (K : Nat) : CEnv (resT [T27]).den := ⟨ammonitekeep_Checkin_Checkin.E K, 136, K, ammonitekeep_Checkin_Checkin.nm, ammonitekeep_Checkin_Checkin.ret K, [], fun _ => false, ammonitekeep_Checkin_Checkin.pre, lookG []⟩
noncomputable def ammonitekeep_Checkin_Checkin.f (K : Nat) (x : (prodT [T35]).den) : Option (resT [T27]).den := exec ammonitekeep_Checkin_Checkin.code (ammonitekeep_Checkin_Checkin.C K) (ammonitekeep_Checkin_Checkin.ret K) (init [T35] x)
noncomputable def ammonitekeep_Checkin_Checkin.m7 (t38 : (List (List UInt8))) (t39 : Int) (t40 : Int) (bo1_0 : Int) (bo1_1 : Int) (bo1_2 : Int) (bo1_3 : Int) (bo1_4 : (List Int)) (bo1_5 : (List Int)) (bo1_6 : (List Int)) (bo1_7 : (List Int)) (bo1_8 : (List Int)) (bA2_0 : (List UInt8)) (bA2_1 : (List UInt8)) (bA2_2 : Int) (bA2_6 : (List UInt8)) (br3_0 : (List UInt8)) (br3_1 : (List UInt8)) (br3_2 : Int) (br3_3 : (List D56)) (br3_6 : (List UInt8)) : St := mkSt [(1, (.ptr 1 0)), (2, (.ptr 2 0)), (3, (.ptr 3 0)), (38, (.d (.slice .str) (t38 : (List (List UInt8))))), (39, (.d (.int .i64) (t39 : Int))), (40, (.d (.int .i64) (t40 : Int)))] [(1, (.box [(.d (.int .i64) (bo1_0 : Int)), (.d (.int .i64) (bo1_1 : Int)), (.d (.int .i64) (bo1_2 : Int)), (.d (.int .i64) (bo1_3 : Int)), (.d (.slice (.int .i64)) (bo1_4 : (List Int))), (.d (.slice (.int .i64)) (bo1_5 : (List Int))), (.d (.slice (.int .i64)) (bo1_6 : (List Int))), (.d (.slice (.int .i64)) (bo1_7 : (List Int))), (.d (.slice (.int .i64)) (bo1_8 : (List Int)))])), (2, (.box [(.d .str (bA2_0 : (List UInt8))), (.d .str (bA2_1 : (List UInt8))), (.d (.int .i64) (bA2_2 : Int)), .nils, .nils, .nils, (.d .str (bA2_6 : (List UInt8)))])), (3, (.box [(.d .str (br3_0 : (List UInt8))), (.d .str (br3_1 : (List UInt8))), (.d (.int .i64) (br3_2 : Int)), (.vs 10303 0 T56 (br3_3 : List D56)), .nils, .nils, (.d .str (br3_6 : (List UInt8)))])), (10303, (.vec T56 0))]
noncomputable def ammonitekeep_Checkin_Checkin.r7 (K : Nat)  (n : Nat) : St → Option D27 := loopAt [.r, .r, .r, .r, .r, .l, .r, .b] ammonitekeep_Checkin_Checkin.code (ammonitekeep_Checkin_Checkin.C K) (ammonitekeep_Checkin_Checkin.ret K) [] n
noncomputable def ammonitekeep_Checkin_Checkin.l7 (K : Nat)  (n : Nat) (t38 : (List (List UInt8))) (t39 : Int) (t40 : Int) (bo1_0 : Int) (bo1_1 : Int) (bo1_2 : Int) (bo1_3 : Int) (bo1_4 : (List Int)) (bo1_5 : (List Int)) (bo1_6 : (List Int)) (bo1_7 : (List Int)) (bo1_8 : (List Int)) (bA2_0 : (List UInt8)) (bA2_1 : (List UInt8)) (bA2_2 : Int) (bA2_6 : (List UInt8)) (br3_0 : (List UInt8)) (br3_1 : (List UInt8)) (br3_2 : Int) (br3_3 : (List D56)) (br3_6 : (List UInt8)) : Option D27 := ammonitekeep_Checkin_Checkin.r7 K n (ammonitekeep_Checkin_Checkin.m7 t38 t39 t40 bo1_0 bo1_1 bo1_2 bo1_3 bo1_4 bo1_5 bo1_6 bo1_7 bo1_8 bA2_0 bA2_1 bA2_2 bA2_6 br3_0 br3_1 br3_2 br3_3 br3_6)
noncomputable def ammonitekeep_Checkin_Checkin.m16 (t8 : Int) (bo1_0 : Int) (bo1_1 : Int) (bo1_2 : Int) (bo1_3 : Int) (bo1_4 : (List Int)) (bo1_5 : (List Int)) (bo1_6 : (List Int)) (bo1_7 : (List Int)) (bo1_8 : (List Int)) (bA2_0 : (List UInt8)) (bA2_1 : (List UInt8)) (bA2_2 : Int) (bA2_6 : (List UInt8)) (br3_0 : (List UInt8)) (br3_1 : (List UInt8)) (br3_2 : Int) (br3_3 : (List D56)) (br3_4 : (List (List UInt8))) (br3_6 : (List UInt8)) : St := mkSt [(1, (.ptr 1 0)), (2, (.ptr 2 0)), (3, (.ptr 3 0)), (8, (.d (.int .i64) (t8 : Int)))] [(1, (.box [(.d (.int .i64) (bo1_0 : Int)), (.d (.int .i64) (bo1_1 : Int)), (.d (.int .i64) (bo1_2 : Int)), (.d (.int .i64) (bo1_3 : Int)), (.d (.slice (.int .i64)) (bo1_4 : (List Int))), (.d (.slice (.int .i64)) (bo1_5 : (List Int))), (.d (.slice (.int .i64)) (bo1_6 : (List Int))), (.d (.slice (.int .i64)) (bo1_7 : (List Int))), (.d (.slice (.int .i64)) (bo1_8 : (List Int)))])), (2, (.box [(.d .str (bA2_0 : (List UInt8))), (.d .str (bA2_1 : (List UInt8))), (.d (.int .i64) (bA2_2 : Int)), .nils, .nils, .nils, (.d .str (bA2_6 : (List UInt8)))])), (3, (.box [(.d .str (br3_0 : (List UInt8))), (.d .str (br3_1 : (List UInt8))), (.d (.int .i64) (br3_2 : Int)), (.vs 10303 0 T56 (br3_3 : List D56)), (.vs 10304 0 .str (br3_4 : List (List UInt8))), .nils, (.d .str (br3_6 : (List UInt8)))])), (10303, (.vec T56 0)), (10304, (.vec .str 0))]
noncomputable def ammonitekeep_Checkin_Checkin.r16 (K : Nat)  (n : Nat) : St → Option D27 := loopAt [.r, .r, .r, .r, .r, .r, .l, .r, .b] ammonitekeep_Checkin_Checkin.code (ammonitekeep_Checkin_Checkin.C K) (ammonitekeep_Checkin_Checkin.ret K) [] n
noncomputable def ammonitekeep_Checkin_Checkin.l16 (K : Nat)  (n : Nat) (t8 : Int) (bo1_0 : Int) (bo1_1 : Int) (bo1_2 : Int) (bo1_3 : Int) (bo1_4 : (List Int)) (bo1_5 : (List Int)) (bo1_6 : (List Int)) (bo1_7 : (List Int)) (bo1_8 : (List Int)) (bA2_0 : (List UInt8)) (bA2_1 : (List UInt8)) (bA2_2 : Int) (bA2_6 : (List UInt8)) (br3_0 : (List UInt8)) (br3_1 : (List UInt8)) (br3_2 : Int) (br3_3 : (List D56)) (br3_4 : (List (List UInt8))) (br3_6 : (List UInt8)) : Option D27 := ammonitekeep_Checkin_Checkin.r16 K n (ammonitekeep_Checkin_Checkin.m16 t8 bo1_0 bo1_1 bo1_2 bo1_3 bo1_4 bo1_5 bo1_6 bo1_7 bo1_8 bA2_0 bA2_1 bA2_2 bA2_6 br3_0 br3_1 br3_2 br3_3 br3_4 br3_6)
theorem ammonitekeep_Checkin_Checkin.eq (K : Nat) (t0 : D35) : ammonitekeep_Checkin_Checkin.f K (t0, ()) =
 (((ammonitebook_Within.f K (t0.2.1, (0 : Int), (9 : Int), ())).bind fun v_1 =>
 ((ammonitebook_Within.f K (t0.2.2.1, (0 : Int), (1 : Int), ())).bind fun v_2 =>
 (chks [(decide ((0 : Int) ≤ v_2)), (decide (v_2 < (List.length ([([109, 101] : List UInt8), ([121, 111, 117] : List UInt8)] : List (List UInt8)) : Int)))]
 ((ammonitekeep_Text_Text.f K ((t0.2.2.2.1.1, (t0.2.2.2.1.2.1, ())), ())).bind fun v_3 =>
 (chks [(decide ((0 : Int) ≤ (if (12 : Int) < (List.length v_3 : Int) then (12 : Int) else (List.length v_3 : Int)))), (decide ((if (12 : Int) < (List.length v_3 : Int) then (12 : Int) else (List.length v_3 : Int)) ≤ (List.length v_3 : Int)))]
 (bif (decide ((Int.tmod t0.1 (4 : Int)) = (3 : Int))) then
 ((ammonitekeep_Name.f K ((IntKind.wrap .i64 (Int.tdiv t0.1 (4 : Int))), ())).bind fun v_4 =>
 ((ammonitekeep_words.f K (())).bind fun v_5 =>
 (ammonitekeep_Checkin_Checkin.l7 K K v_5 (List.length v_5 : Int) (0 : Int) t0.1 t0.2.1 t0.2.2.1 t0.2.2.2.1.1 t0.2.2.2.1.2.1 t0.2.2.2.2.1 t0.2.2.2.2.2.1 t0.2.2.2.2.2.2.1 t0.2.2.2.2.2.2.2.1 [] [] 0 [] v_4 (cutL v_3 none (some (if (12 : Int) < (List.length v_3 : Int) then (12 : Int) else (List.length v_3 : Int)))) v_1 ([] : (List D56)) (List.getD ([([109, 101] : List UInt8), ([121, 111, 117] : List UInt8)] : List (List UInt8)) (Int.toNat v_2) (DTy.dflt .str)))))
 else
 ((ammonitekeep_words.f K (())).bind fun v_6 =>
 (ammonitekeep_Checkin_Checkin.l7 K K v_6 (List.length v_6 : Int) (0 : Int) t0.1 t0.2.1 t0.2.2.1 t0.2.2.2.1.1 t0.2.2.2.1.2.1 t0.2.2.2.2.1 t0.2.2.2.2.2.1 t0.2.2.2.2.2.2.1 t0.2.2.2.2.2.2.2.1 [] [] 0 [] [] (cutL v_3 none (some (if (12 : Int) < (List.length v_3 : Int) then (12 : Int) else (List.length v_3 : Int)))) v_1 ([] : (List D56)) (List.getD ([([109, 101] : List UInt8), ([121, 111, 117] : List UInt8)] : List (List UInt8)) (Int.toNat v_2) (DTy.dflt .str)))))))))) : Option D27) := by kernel_rfl
theorem ammonitekeep_Checkin_Checkin.l7_succ (K : Nat)  (n : Nat) (t38 : (List (List UInt8))) (t39 : Int) (t40 : Int) (bo1_0 : Int) (bo1_1 : Int) (bo1_2 : Int) (bo1_3 : Int) (bo1_4 : (List Int)) (bo1_5 : (List Int)) (bo1_6 : (List Int)) (bo1_7 : (List Int)) (bo1_8 : (List Int)) (bA2_0 : (List UInt8)) (bA2_1 : (List UInt8)) (bA2_2 : Int) (bA2_6 : (List UInt8)) (br3_0 : (List UInt8)) (br3_1 : (List UInt8)) (br3_2 : Int) (br3_3 : (List D56)) (br3_6 : (List UInt8)) : ammonitekeep_Checkin_Checkin.l7 K (n + 1) t38 t39 t40 bo1_0 bo1_1 bo1_2 bo1_3 bo1_4 bo1_5 bo1_6 bo1_7 bo1_8 bA2_0 bA2_1 bA2_2 bA2_6 br3_0 br3_1 br3_2 br3_3 br3_6 =
 ((bif (decide (t40 < t39)) then
 (chks [(decide ((0 : Int) ≤ t40)), (decide (t40 < (List.length t38 : Int)))]
 (bif (decide ((List.length bo1_5 : Int) ≤ t40)) then
 (ammonitekeep_Checkin_Checkin.l7 K n t38 t39 (IntKind.wrap .i64 (t40 + (1 : Int))) bo1_0 bo1_1 bo1_2 bo1_3 bo1_4 bo1_5 bo1_6 bo1_7 bo1_8 bA2_0 bA2_1 bA2_2 bA2_6 br3_0 br3_1 br3_2 br3_3 br3_6)
 else
 (chks [(decide ((0 : Int) ≤ t40)), (decide (t40 < (List.length bo1_5 : Int)))]
 (bif (decide ((bit2 .and .i64 (List.getD bo1_5 (Int.toNat t40) (DTy.dflt (.int .i64))) (1 : Int)) = (0 : Int))) then
 (ammonitekeep_Checkin_Checkin.l7 K n t38 t39 (IntKind.wrap .i64 (t40 + (1 : Int))) bo1_0 bo1_1 bo1_2 bo1_3 bo1_4 bo1_5 bo1_6 bo1_7 bo1_8 bA2_0 bA2_1 bA2_2 bA2_6 br3_0 br3_1 br3_2 br3_3 br3_6)
 else
 (bif (decide ((1 : Int) < (List.length br3_3 : Int))) then
 (ammonitekeep_Checkin_Checkin.l7 K n t38 t39 (IntKind.wrap .i64 (t40 + (1 : Int))) bo1_0 bo1_1 bo1_2 bo1_3 bo1_4 bo1_5 bo1_6 bo1_7 bo1_8 bA2_0 bA2_1 bA2_2 bA2_6 br3_0 br3_1 br3_2 br3_3 br3_6)
 else
 (chks [(decide ((0 : Int) ≤ t40)), (decide (t40 < (List.length bo1_5 : Int)))]
 ((ammonitekeep_Name.f K ((IntKind.wrap .i64 (Int.tdiv (List.getD bo1_5 (Int.toNat t40) (DTy.dflt (.int .i64))) (2 : Int))), ())).bind fun v_1 =>
 (bif (!(decide (br3_0 = ([] : List UInt8)))) then
 (chks [(decide ((0 : Int) ≤ t40)), (decide (t40 < (List.length bo1_5 : Int)))]
 (bif (decide ((Int.tmod (List.getD bo1_5 (Int.toNat t40) (DTy.dflt (.int .i64))) (3 : Int)) = (0 : Int))) then
 (chks [(growOk (List.length br3_3) (List.length ([((List.getD t38 (Int.toNat t40) (DTy.dflt .str)), (([] : List UInt8), ()))] : List D56)) 32)]
 (ammonitekeep_Checkin_Checkin.l7 K n t38 t39 (IntKind.wrap .i64 (t40 + (1 : Int))) bo1_0 bo1_1 bo1_2 bo1_3 bo1_4 bo1_5 bo1_6 bo1_7 bo1_8 bA2_0 bA2_1 bA2_2 bA2_6 br3_0 br3_1 br3_2 (br3_3 ++ ([((List.getD t38 (Int.toNat t40) (DTy.dflt .str)), (([] : List UInt8), ()))] : List D56)) br3_6))
 else
 (chks [(growOk (List.length br3_3) (List.length ([((List.getD t38 (Int.toNat t40) (DTy.dflt .str)), (v_1, ()))] : List D56)) 32)]
 (ammonitekeep_Checkin_Checkin.l7 K n t38 t39 (IntKind.wrap .i64 (t40 + (1 : Int))) bo1_0 bo1_1 bo1_2 bo1_3 bo1_4 bo1_5 bo1_6 bo1_7 bo1_8 bA2_0 bA2_1 bA2_2 bA2_6 br3_0 br3_1 br3_2 (br3_3 ++ ([((List.getD t38 (Int.toNat t40) (DTy.dflt .str)), (v_1, ()))] : List D56)) br3_6))))
 else
 (chks [(growOk (List.length br3_3) (List.length ([((List.getD t38 (Int.toNat t40) (DTy.dflt .str)), (v_1, ()))] : List D56)) 32)]
 (ammonitekeep_Checkin_Checkin.l7 K n t38 t39 (IntKind.wrap .i64 (t40 + (1 : Int))) bo1_0 bo1_1 bo1_2 bo1_3 bo1_4 bo1_5 bo1_6 bo1_7 bo1_8 bA2_0 bA2_1 bA2_2 bA2_6 br3_0 br3_1 br3_2 (br3_3 ++ ([((List.getD t38 (Int.toNat t40) (DTy.dflt .str)), (v_1, ()))] : List D56)) br3_6))))))))))
 else
 (ammonitekeep_Checkin_Checkin.l16 K K (0 : Int) bo1_0 bo1_1 bo1_2 bo1_3 bo1_4 bo1_5 bo1_6 bo1_7 bo1_8 bA2_0 bA2_1 bA2_2 bA2_6 br3_0 br3_1 br3_2 br3_3 ([] : (List (List UInt8))) br3_6)) : Option D27) := by kernel_rfl
theorem ammonitekeep_Checkin_Checkin.l16_succ (K : Nat)  (n : Nat) (t8 : Int) (bo1_0 : Int) (bo1_1 : Int) (bo1_2 : Int) (bo1_3 : Int) (bo1_4 : (List Int)) (bo1_5 : (List Int)) (bo1_6 : (List Int)) (bo1_7 : (List Int)) (bo1_8 : (List Int)) (bA2_0 : (List UInt8)) (bA2_1 : (List UInt8)) (bA2_2 : Int) (bA2_6 : (List UInt8)) (br3_0 : (List UInt8)) (br3_1 : (List UInt8)) (br3_2 : Int) (br3_3 : (List D56)) (br3_4 : (List (List UInt8))) (br3_6 : (List UInt8)) : ammonitekeep_Checkin_Checkin.l16 K (n + 1) t8 bo1_0 bo1_1 bo1_2 bo1_3 bo1_4 bo1_5 bo1_6 bo1_7 bo1_8 bA2_0 bA2_1 bA2_2 bA2_6 br3_0 br3_1 br3_2 br3_3 br3_4 br3_6 =
 ((bif (decide (t8 < (List.length bo1_6 : Int))) then
 (bif (decide (t8 < (2 : Int))) then
 (chks [(decide ((0 : Int) ≤ t8)), (decide (t8 < (List.length bo1_6 : Int)))]
 ((ammonitekeep_Name.f K ((List.getD bo1_6 (Int.toNat t8) (DTy.dflt (.int .i64))), ())).bind fun v_1 =>
 (bif (decide ((List.length br3_4 : Int) = (0 : Int))) then
 (chks [(growOk (List.length br3_4) (List.length ([v_1] : List (List UInt8))) 16)]
 (ammonitekeep_Checkin_Checkin.l16 K n (IntKind.wrap .i64 (t8 + (1 : Int))) bo1_0 bo1_1 bo1_2 bo1_3 bo1_4 bo1_5 bo1_6 bo1_7 bo1_8 bA2_0 bA2_1 bA2_2 bA2_6 br3_0 br3_1 br3_2 br3_3 (br3_4 ++ ([v_1] : List (List UInt8))) br3_6))
 else
 (chks [(decide ((0 : Int) < (List.length br3_4 : Int)))]
 (bif (!(decide ((List.getD br3_4 (Int.toNat (0 : Int)) (DTy.dflt .str)) = v_1))) then
 (chks [(growOk (List.length br3_4) (List.length ([v_1] : List (List UInt8))) 16)]
 (ammonitekeep_Checkin_Checkin.l16 K n (IntKind.wrap .i64 (t8 + (1 : Int))) bo1_0 bo1_1 bo1_2 bo1_3 bo1_4 bo1_5 bo1_6 bo1_7 bo1_8 bA2_0 bA2_1 bA2_2 bA2_6 br3_0 br3_1 br3_2 br3_3 (br3_4 ++ ([v_1] : List (List UInt8))) br3_6))
 else
 (ammonitekeep_Checkin_Checkin.l16 K n (IntKind.wrap .i64 (t8 + (1 : Int))) bo1_0 bo1_1 bo1_2 bo1_3 bo1_4 bo1_5 bo1_6 bo1_7 bo1_8 bA2_0 bA2_1 bA2_2 bA2_6 br3_0 br3_1 br3_2 br3_3 br3_4 br3_6))))))
 else
 ((ammonitekeep_tagOps.f K (bo1_7, bo1_8, true, ())).bind fun v_2 =>
 (some (br3_0, (br3_1, (br3_2, (br3_3, (br3_4, (v_2, (br3_6, ()))))))))))
 else
 ((ammonitekeep_tagOps.f K (bo1_7, bo1_8, true, ())).bind fun v_3 =>
 (some (br3_0, (br3_1, (br3_2, (br3_3, (br3_4, (v_3, (br3_6, ())))))))))) : Option D27) := by kernel_rfl
theorem ammonitekeep_Checkin_Checkin.tbOk (K : Nat) : TbOk Try.prog (ammonitekeep_Checkin_Checkin.tb K) := by
 intro e he
 simp only [ammonitekeep_Checkin_Checkin.tb, List.mem_cons, List.not_mem_nil, or_false] at he
 rcases he with rfl | rfl | rfl | rfl | rfl
 · exact ⟨ammonitebook_Within.ok K, enters_of Try.func23 (by kernel_rfl) rfl⟩
 · exact ⟨ammonitekeep_Text_Text.ok K, enters_of Try.func43 (by kernel_rfl) rfl⟩
 · exact ⟨ammonitekeep_Name.ok K, enters_of Try.func44 (by kernel_rfl) rfl⟩
 · exact ⟨ammonitekeep_words.ok K, enters_of Try.func45 (by kernel_rfl) rfl⟩
 · exact ⟨ammonitekeep_tagOps.ok K, enters_of Try.func46 (by kernel_rfl) rfl⟩
theorem ammonitekeep_Checkin_Checkin.itsOk : ItbOk Try.prog ammonitekeep_Checkin_Checkin.its := by
 intro e he
 simp only [ammonitekeep_Checkin_Checkin.its, List.mem_cons, List.not_mem_nil, or_false] at he
theorem ammonitekeep_Checkin_Checkin.ok (K : Nat) : PureC Try.prog 13 ⟨[T35], [T27], ammonitekeep_Checkin_Checkin.f K⟩ :=
 fn_sound (itOk _ _) (E := ammonitekeep_Checkin_Checkin.E K) (full_ok tys_ok ammonitekeep_Checkin_Checkin.itsOk (ammonitekeep_Checkin_Checkin.tbOk K) par_ok bld_ok bty_ok) mixed Try.func13 (c := ammonitekeep_Checkin_Checkin.code) (by kernel_rfl) (by kernel_rfl) (by decide) (by kernel_rfl)
end Go.Proofs.Ytaoadbkoambjbaa.Ab
