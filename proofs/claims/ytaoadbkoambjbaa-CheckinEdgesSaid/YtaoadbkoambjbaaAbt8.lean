import Derived.Test.YtaoadbkoambjbaaAbt7
import Derived.Test.YtaoadbkoambjbaaProg
set_option linter.unusedVariables false
set_option linter.unusedSimpArgs false
set_option maxRecDepth 100000
namespace Go.Proofs.Ytaoadbkoambjbaa.Ab
open Go Go.RowKit Go.Proofs
noncomputable def ammoniteref10_RightControl.tb (K : Nat) : Tb := [(59, ⟨[.str], [.bool], ammoniteref10_Word.f K⟩), (60, ⟨[(.slice T42), .bool], [.bool], ammoniteref10_rightOps.f K⟩)]
noncomputable def ammoniteref10_RightControl.its : Itb := []
noncomputable def ammoniteref10_RightControl.code : Code := (Try.f86.body).getD .skip
noncomputable def ammoniteref10_RightControl.nm : Nat → NormSpec := lookN []
noncomputable def ammoniteref10_RightControl.pre : Nat → Option NormSpec := lookP []
noncomputable def ammoniteref10_RightControl.E (K : Nat) : Env := ⟨lookR tys, bty, fullCall ammoniteref10_RightControl.its (ammoniteref10_RightControl.tb K) bids⟩
noncomputable def ammoniteref10_RightControl.ret (K : Nat) : St → Option (resT [.bool]).den := retA (ammoniteref10_RightControl.E K) [.bool] [(.tmp 2)]
noncomputable def ammoniteref10_RightControl.C (K : Nat) : CEnv (resT [.bool]).den := ⟨ammoniteref10_RightControl.E K, 27, K, ammoniteref10_RightControl.nm, ammoniteref10_RightControl.ret K, [], fun _ => false, ammoniteref10_RightControl.pre, lookG []⟩
noncomputable def ammoniteref10_RightControl.f (K : Nat) (x : (prodT [T106]).den) : Option (resT [.bool]).den := exec ammoniteref10_RightControl.code (ammoniteref10_RightControl.C K) (ammoniteref10_RightControl.ret K) (init [T106] x)
theorem ammoniteref10_RightControl.tbOk (K : Nat) : TbOk Try.prog (ammoniteref10_RightControl.tb K) := by
 intro e he
 simp only [ammoniteref10_RightControl.tb, List.mem_cons, List.not_mem_nil, or_false] at he
 rcases he with rfl | rfl
 · exact ⟨ammoniteref10_Word.ok K, enters_of Try.func59 (by kernel_rfl) rfl⟩
 · exact ⟨ammoniteref10_rightOps.ok K, enters_of Try.func60 (by kernel_rfl) rfl⟩
theorem ammoniteref10_RightControl.itsOk : ItbOk Try.prog ammoniteref10_RightControl.its := by
 intro e he
 simp only [ammoniteref10_RightControl.its, List.mem_cons, List.not_mem_nil, or_false] at he
theorem ammoniteref10_RightControl.ok (K : Nat) : PureC Try.prog 86 ⟨[T106], [.bool], ammoniteref10_RightControl.f K⟩ :=
 fn_sound (itOk _ _) (E := ammoniteref10_RightControl.E K) (full_ok tys_ok ammoniteref10_RightControl.itsOk (ammoniteref10_RightControl.tbOk K) par_ok bld_ok bty_ok) mixed Try.func86 (c := ammoniteref10_RightControl.code) (by kernel_rfl) (by kernel_rfl) (by decide) (by kernel_rfl)
noncomputable def ammoniteref10_Control.tb (K : Nat) : Tb := [(41, ⟨[(.int .i64)], [.str], ammoniteref1_Dec.f K⟩), (42, ⟨[(.slice T42)], [(.slice T49)], ammoniteref10_ops.f K⟩), (40, ⟨[(.slice T49)], [.str], ammoniteref10_Print.f K⟩)]
noncomputable def ammoniteref10_Control.its : Itb := []
noncomputable def ammoniteref10_Control.code : Code := (Try.f87.body).getD .skip
noncomputable def ammoniteref10_Control.nm : Nat → NormSpec := lookN []
noncomputable def ammoniteref10_Control.pre : Nat → Option NormSpec := lookP []
noncomputable def ammoniteref10_Control.E (K : Nat) : Env := ⟨lookR tys, bty, fullCall ammoniteref10_Control.its (ammoniteref10_Control.tb K) bids⟩
noncomputable def ammoniteref10_Control.ret (K : Nat) : St → Option (resT [.str]).den := retA (ammoniteref10_Control.E K) [.str] [(.tmp 2)]
noncomputable def ammoniteref10_Control.C (K : Nat) : CEnv (resT [.str]).den := ⟨ammoniteref10_Control.E K, 22, K, ammoniteref10_Control.nm, ammoniteref10_Control.ret K, [], fun _ => false, ammoniteref10_Control.pre, lookG []⟩
noncomputable def ammoniteref10_Control.f (K : Nat) (x : (prodT [T106]).den) : Option (resT [.str]).den := exec ammoniteref10_Control.code (ammoniteref10_Control.C K) (ammoniteref10_Control.ret K) (init [T106] x)
theorem ammoniteref10_Control.tbOk (K : Nat) : TbOk Try.prog (ammoniteref10_Control.tb K) := by
 intro e he
 simp only [ammoniteref10_Control.tb, List.mem_cons, List.not_mem_nil, or_false] at he
 rcases he with rfl | rfl | rfl
 · exact ⟨ammoniteref1_Dec.ok K, enters_of Try.func41 (by kernel_rfl) rfl⟩
 · exact ⟨ammoniteref10_ops.ok K, enters_of Try.func42 (by kernel_rfl) rfl⟩
 · exact ⟨ammoniteref10_Print.ok K, enters_of Try.func40 (by kernel_rfl) rfl⟩
theorem ammoniteref10_Control.itsOk : ItbOk Try.prog ammoniteref10_Control.its := by
 intro e he
 simp only [ammoniteref10_Control.its, List.mem_cons, List.not_mem_nil, or_false] at he
theorem ammoniteref10_Control.ok (K : Nat) : PureC Try.prog 87 ⟨[T106], [.str], ammoniteref10_Control.f K⟩ :=
 fn_sound (itOk _ _) (E := ammoniteref10_Control.E K) (full_ok tys_ok ammoniteref10_Control.itsOk (ammoniteref10_Control.tbOk K) par_ok bld_ok bty_ok) mixed Try.func87 (c := ammoniteref10_Control.code) (by kernel_rfl) (by kernel_rfl) (by decide) (by kernel_rfl)
noncomputable def ammoniteref10_ReadControl.tb (K : Nat) : Tb := [(39, ⟨[.str], [(.slice T49), .bool], ammoniteref10_Cards.f K⟩), (47, ⟨[(.slice T49)], [(.slice T42), .bool], ammoniteref10_readOps.f K⟩), (49, ⟨[.str], [(.int .i64)], ammoniteref1_ReadDec.f K⟩), (86, ⟨[T106], [.bool], ammoniteref10_RightControl.f K⟩), (87, ⟨[T106], [.str], ammoniteref10_Control.f K⟩)]
noncomputable def ammoniteref10_ReadControl.its : Itb := []
noncomputable def ammoniteref10_ReadControl.code : Code := (Try.f67.body).getD .skip
noncomputable def ammoniteref10_ReadControl.nm : Nat → NormSpec := lookN []
noncomputable def ammoniteref10_ReadControl.pre : Nat → Option NormSpec := lookP []
noncomputable def ammoniteref10_ReadControl.E (K : Nat) : Env := ⟨lookR tys, bty, fullCall ammoniteref10_ReadControl.its (ammoniteref10_ReadControl.tb K) bids⟩
noncomputable def ammoniteref10_ReadControl.ret (K : Nat) : St → Option (resT [T106, .bool]).den := retA (ammoniteref10_ReadControl.E K) [T106, .bool] [(.cell 2 106), (.tmp 3)]
noncomputable def ammoniteref10_ReadControl.C (K : Nat) : CEnv (resT [T106, .bool]).den := ⟨ammoniteref10_ReadControl.E K, 96, K, ammoniteref10_ReadControl.nm, ammoniteref10_ReadControl.ret K, [], fun _ => false, ammoniteref10_ReadControl.pre, lookG []⟩
noncomputable def ammoniteref10_ReadControl.f (K : Nat) (x : (prodT [.str]).den) : Option (resT [T106, .bool]).den := exec ammoniteref10_ReadControl.code (ammoniteref10_ReadControl.C K) (ammoniteref10_ReadControl.ret K) (init [.str] x)
theorem ammoniteref10_ReadControl.tbOk (K : Nat) : TbOk Try.prog (ammoniteref10_ReadControl.tb K) := by
 intro e he
 simp only [ammoniteref10_ReadControl.tb, List.mem_cons, List.not_mem_nil, or_false] at he
 rcases he with rfl | rfl | rfl | rfl | rfl
 · exact ⟨ammoniteref10_Cards.ok K, enters_of Try.func39 (by kernel_rfl) rfl⟩
 · exact ⟨ammoniteref10_readOps.ok K, enters_of Try.func47 (by kernel_rfl) rfl⟩
 · exact ⟨ammoniteref1_ReadDec.ok K, enters_of Try.func49 (by kernel_rfl) rfl⟩
 · exact ⟨ammoniteref10_RightControl.ok K, enters_of Try.func86 (by kernel_rfl) rfl⟩
 · exact ⟨ammoniteref10_Control.ok K, enters_of Try.func87 (by kernel_rfl) rfl⟩
theorem ammoniteref10_ReadControl.itsOk : ItbOk Try.prog ammoniteref10_ReadControl.its := by
 intro e he
 simp only [ammoniteref10_ReadControl.its, List.mem_cons, List.not_mem_nil, or_false] at he
theorem ammoniteref10_ReadControl.ok (K : Nat) : PureC Try.prog 67 ⟨[.str], [T106, .bool], ammoniteref10_ReadControl.f K⟩ :=
 fn_sound (itOk _ _) (E := ammoniteref10_ReadControl.E K) (full_ok tys_ok ammoniteref10_ReadControl.itsOk (ammoniteref10_ReadControl.tbOk K) par_ok bld_ok bty_ok) mixed Try.func67 (c := ammoniteref10_ReadControl.code) (by kernel_rfl) (by kernel_rfl) (by decide) (by kernel_rfl)
noncomputable def ammoniteref10_RightCluster.tb (K : Nat) : Tb := [(58, ⟨[.str], [.bool], ammoniteref1_Is.f K⟩)]
noncomputable def ammoniteref10_RightCluster.its : Itb := []
noncomputable def ammoniteref10_RightCluster.code : Code := (Try.f88.body).getD .skip
noncomputable def ammoniteref10_RightCluster.nm : Nat → NormSpec := lookN [(2, ⟨[(0, (.data (.slice .str))), (5, (.data (.slice .str))), (6, (.data (.int .i64))), (7, (.data (.int .i64)))], [], []⟩)]
noncomputable def ammoniteref10_RightCluster.pre : Nat → Option NormSpec := lookP []
noncomputable def ammoniteref10_RightCluster.E (K : Nat) : Env := ⟨lookR tys, bty, fullCall ammoniteref10_RightCluster.its (ammoniteref10_RightCluster.tb K) bids⟩
noncomputable def ammoniteref10_RightCluster.ret (K : Nat) : St → Option (resT [.bool]).den := retA (ammoniteref10_RightCluster.E K) [.bool] [(.tmp 2)]
noncomputable def ammoniteref10_RightCluster.C (K : Nat) : CEnv (resT [.bool]).den := ⟨ammoniteref10_RightCluster.E K, 37, K, ammoniteref10_RightCluster.nm, ammoniteref10_RightCluster.ret K, [], fun _ => false, ammoniteref10_RightCluster.pre, lookG []⟩
noncomputable def ammoniteref10_RightCluster.f (K : Nat) (x : (prodT [(.slice .str)]).den) : Option (resT [.bool]).den := exec ammoniteref10_RightCluster.code (ammoniteref10_RightCluster.C K) (ammoniteref10_RightCluster.ret K) (init [(.slice .str)] x)
theorem ammoniteref10_RightCluster.tbOk (K : Nat) : TbOk Try.prog (ammoniteref10_RightCluster.tb K) := by
 intro e he
 simp only [ammoniteref10_RightCluster.tb, List.mem_cons, List.not_mem_nil, or_false] at he
 rcases he with rfl
 · exact ⟨ammoniteref1_Is.ok K, enters_of Try.func58 (by kernel_rfl) rfl⟩
theorem ammoniteref10_RightCluster.itsOk : ItbOk Try.prog ammoniteref10_RightCluster.its := by
 intro e he
 simp only [ammoniteref10_RightCluster.its, List.mem_cons, List.not_mem_nil, or_false] at he
theorem ammoniteref10_RightCluster.ok (K : Nat) : PureC Try.prog 88 ⟨[(.slice .str)], [.bool], ammoniteref10_RightCluster.f K⟩ :=
 fn_sound (itOk _ _) (E := ammoniteref10_RightCluster.E K) (full_ok tys_ok ammoniteref10_RightCluster.itsOk (ammoniteref10_RightCluster.tbOk K) par_ok bld_ok bty_ok) mixed Try.func88 (c := ammoniteref10_RightCluster.code) (by kernel_rfl) (by kernel_rfl) (by decide) (by kernel_rfl)
noncomputable def ammoniteref10_Cluster.tb (K : Nat) : Tb := [(40, ⟨[(.slice T49)], [.str], ammoniteref10_Print.f K⟩)]
noncomputable def ammoniteref10_Cluster.its : Itb := []
noncomputable def ammoniteref10_Cluster.code : Code := (Try.f89.body).getD .skip
noncomputable def ammoniteref10_Cluster.nm : Nat → NormSpec := lookN [(3, ⟨[(3, (.vec T49)), (6, (.data (.slice .str))), (7, (.data (.int .i64))), (8, (.data (.int .i64)))], [], []⟩)]
noncomputable def ammoniteref10_Cluster.pre : Nat → Option NormSpec := lookP []
noncomputable def ammoniteref10_Cluster.E (K : Nat) : Env := ⟨lookR tys, bty, fullCall ammoniteref10_Cluster.its (ammoniteref10_Cluster.tb K) bids⟩
noncomputable def ammoniteref10_Cluster.ret (K : Nat) : St → Option (resT [.str]).den := retA (ammoniteref10_Cluster.E K) [.str] [(.tmp 2)]
noncomputable def ammoniteref10_Cluster.C (K : Nat) : CEnv (resT [.str]).den := ⟨ammoniteref10_Cluster.E K, 21, K, ammoniteref10_Cluster.nm, ammoniteref10_Cluster.ret K, [], fun _ => false, ammoniteref10_Cluster.pre, lookG []⟩
noncomputable def ammoniteref10_Cluster.f (K : Nat) (x : (prodT [(.slice .str)]).den) : Option (resT [.str]).den := exec ammoniteref10_Cluster.code (ammoniteref10_Cluster.C K) (ammoniteref10_Cluster.ret K) (init [(.slice .str)] x)
theorem ammoniteref10_Cluster.tbOk (K : Nat) : TbOk Try.prog (ammoniteref10_Cluster.tb K) := by
 intro e he
 simp only [ammoniteref10_Cluster.tb, List.mem_cons, List.not_mem_nil, or_false] at he
 rcases he with rfl
 · exact ⟨ammoniteref10_Print.ok K, enters_of Try.func40 (by kernel_rfl) rfl⟩
theorem ammoniteref10_Cluster.itsOk : ItbOk Try.prog ammoniteref10_Cluster.its := by
 intro e he
 simp only [ammoniteref10_Cluster.its, List.mem_cons, List.not_mem_nil, or_false] at he
theorem ammoniteref10_Cluster.ok (K : Nat) : PureC Try.prog 89 ⟨[(.slice .str)], [.str], ammoniteref10_Cluster.f K⟩ :=
 fn_sound (itOk _ _) (E := ammoniteref10_Cluster.E K) (full_ok tys_ok ammoniteref10_Cluster.itsOk (ammoniteref10_Cluster.tbOk K) par_ok bld_ok bty_ok) mixed Try.func89 (c := ammoniteref10_Cluster.code) (by kernel_rfl) (by kernel_rfl) (by decide) (by kernel_rfl)
noncomputable def ammoniteref10_ReadCluster.tb (K : Nat) : Tb := [(39, ⟨[.str], [(.slice T49), .bool], ammoniteref10_Cards.f K⟩), (88, ⟨[(.slice .str)], [.bool], ammoniteref10_RightCluster.f K⟩), (89, ⟨[(.slice .str)], [.str], ammoniteref10_Cluster.f K⟩)]
noncomputable def ammoniteref10_ReadCluster.its : Itb := []
noncomputable def ammoniteref10_ReadCluster.code : Code := (Try.f68.body).getD .skip
noncomputable def ammoniteref10_ReadCluster.nm : Nat → NormSpec := lookN [(4, ⟨[(0, (.data .str)), (5, (.data .bool)), (6, (.vec .str)), (14, (.data (.slice T49))), (15, (.data (.int .i64))), (16, (.data (.int .i64)))], [], []⟩)]
noncomputable def ammoniteref10_ReadCluster.pre : Nat → Option NormSpec := lookP []
noncomputable def ammoniteref10_ReadCluster.E (K : Nat) : Env := ⟨lookR tys, bty, fullCall ammoniteref10_ReadCluster.its (ammoniteref10_ReadCluster.tb K) bids⟩
noncomputable def ammoniteref10_ReadCluster.ret (K : Nat) : St → Option (resT [(.slice .str), .bool]).den := retA (ammoniteref10_ReadCluster.E K) [(.slice .str), .bool] [(.tmp 2), (.tmp 3)]
noncomputable def ammoniteref10_ReadCluster.C (K : Nat) : CEnv (resT [(.slice .str), .bool]).den := ⟨ammoniteref10_ReadCluster.E K, 51, K, ammoniteref10_ReadCluster.nm, ammoniteref10_ReadCluster.ret K, [], fun _ => false, ammoniteref10_ReadCluster.pre, lookG []⟩
noncomputable def ammoniteref10_ReadCluster.f (K : Nat) (x : (prodT [.str]).den) : Option (resT [(.slice .str), .bool]).den := exec ammoniteref10_ReadCluster.code (ammoniteref10_ReadCluster.C K) (ammoniteref10_ReadCluster.ret K) (init [.str] x)
theorem ammoniteref10_ReadCluster.tbOk (K : Nat) : TbOk Try.prog (ammoniteref10_ReadCluster.tb K) := by
 intro e he
 simp only [ammoniteref10_ReadCluster.tb, List.mem_cons, List.not_mem_nil, or_false] at he
 rcases he with rfl | rfl | rfl
 · exact ⟨ammoniteref10_Cards.ok K, enters_of Try.func39 (by kernel_rfl) rfl⟩
 · exact ⟨ammoniteref10_RightCluster.ok K, enters_of Try.func88 (by kernel_rfl) rfl⟩
 · exact ⟨ammoniteref10_Cluster.ok K, enters_of Try.func89 (by kernel_rfl) rfl⟩
theorem ammoniteref10_ReadCluster.itsOk : ItbOk Try.prog ammoniteref10_ReadCluster.its := by
 intro e he
 simp only [ammoniteref10_ReadCluster.its, List.mem_cons, List.not_mem_nil, or_false] at he
theorem ammoniteref10_ReadCluster.ok (K : Nat) : PureC Try.prog 68 ⟨[.str], [(.slice .str), .bool], ammoniteref10_ReadCluster.f K⟩ :=
 fn_sound (itOk _ _) (E := ammoniteref10_ReadCluster.E K) (full_ok tys_ok ammoniteref10_ReadCluster.itsOk (ammoniteref10_ReadCluster.tbOk K) par_ok bld_ok bty_ok) mixed Try.func68 (c := ammoniteref10_ReadCluster.code) (by kernel_rfl) (by kernel_rfl) (by decide) (by kernel_rfl)
noncomputable def ammoniteref10_Kind.tb (K : Nat) : Tb := [(14, ⟨[.str], [T27, .bool], ammoniteref10_ReadCheckin.f K⟩), (67, ⟨[.str], [T106, .bool], ammoniteref10_ReadControl.f K⟩), (68, ⟨[.str], [(.slice .str), .bool], ammoniteref10_ReadCluster.f K⟩)]
noncomputable def ammoniteref10_Kind.its : Itb := []
noncomputable def ammoniteref10_Kind.code : Code := (Try.f29.body).getD .skip
noncomputable def ammoniteref10_Kind.nm : Nat → NormSpec := lookN []
noncomputable def ammoniteref10_Kind.pre : Nat → Option NormSpec := lookP []
noncomputable def ammoniteref10_Kind.E (K : Nat) : Env := ⟨lookR tys, bty, fullCall ammoniteref10_Kind.its (ammoniteref10_Kind.tb K) bids⟩
noncomputable def ammoniteref10_Kind.ret (K : Nat) : St → Option (resT [(.int .i64)]).den := retA (ammoniteref10_Kind.E K) [(.int .i64)] [(.tmp 2)]
noncomputable def ammoniteref10_Kind.C (K : Nat) : CEnv (resT [(.int .i64)]).den := ⟨ammoniteref10_Kind.E K, 27, K, ammoniteref10_Kind.nm, ammoniteref10_Kind.ret K, [], fun _ => false, ammoniteref10_Kind.pre, lookG []⟩
noncomputable def ammoniteref10_Kind.f (K : Nat) (x : (prodT [.str]).den) : Option (resT [(.int .i64)]).den := exec ammoniteref10_Kind.code (ammoniteref10_Kind.C K) (ammoniteref10_Kind.ret K) (init [.str] x)
theorem ammoniteref10_Kind.eq (K : Nat) (s0 : (List UInt8)) : ammoniteref10_Kind.f K (s0, ()) =
 (((ammoniteref10_ReadCheckin.f K (s0, ())).bind fun v_1 =>
 (bif v_1.2.1 then
 (some (2 : Int))
 else
 ((ammoniteref10_ReadControl.f K (s0, ())).bind fun v_2 =>
 (bif v_2.2.1 then
 (some (3 : Int))
 else
 ((ammoniteref10_ReadCluster.f K (s0, ())).bind fun v_3 =>
 (bif v_3.2.1 then
 (some (4 : Int))
 else
 (some (1 : Int)))))))) : Option Int) := by kernel_rfl
theorem ammoniteref10_Kind.tbOk (K : Nat) : TbOk Try.prog (ammoniteref10_Kind.tb K) := by
 intro e he
 simp only [ammoniteref10_Kind.tb, List.mem_cons, List.not_mem_nil, or_false] at he
 rcases he with rfl | rfl | rfl
 · exact ⟨ammoniteref10_ReadCheckin.ok K, enters_of Try.func14 (by kernel_rfl) rfl⟩
 · exact ⟨ammoniteref10_ReadControl.ok K, enters_of Try.func67 (by kernel_rfl) rfl⟩
 · exact ⟨ammoniteref10_ReadCluster.ok K, enters_of Try.func68 (by kernel_rfl) rfl⟩
theorem ammoniteref10_Kind.itsOk : ItbOk Try.prog ammoniteref10_Kind.its := by
 intro e he
 simp only [ammoniteref10_Kind.its, List.mem_cons, List.not_mem_nil, or_false] at he
theorem ammoniteref10_Kind.ok (K : Nat) : PureC Try.prog 29 ⟨[.str], [(.int .i64)], ammoniteref10_Kind.f K⟩ :=
 fn_sound (itOk _ _) (E := ammoniteref10_Kind.E K) (full_ok tys_ok ammoniteref10_Kind.itsOk (ammoniteref10_Kind.tbOk K) par_ok bld_ok bty_ok) mixed Try.func29 (c := ammoniteref10_Kind.code) (by kernel_rfl) (by kernel_rfl) (by decide) (by kernel_rfl)
noncomputable def ammonitelaw12_tame.tb (K : Nat) : Tb := []
noncomputable def ammonitelaw12_tame.its : Itb := []
noncomputable def ammonitelaw12_tame.code : Code := (Try.f24.body).getD .skip
noncomputable def ammonitelaw12_tame.nm : Nat → NormSpec := lookN []
noncomputable def ammonitelaw12_tame.pre : Nat → Option NormSpec := lookP []
noncomputable def ammonitelaw12_tame.E (K : Nat) : Env := ⟨lookR tys, bty, fullCall ammonitelaw12_tame.its (ammonitelaw12_tame.tb K) bids⟩
noncomputable def ammonitelaw12_tame.ret (K : Nat) : St → Option (resT [T27]).den := retA (ammonitelaw12_tame.E K) [T27] [(.cell 2 27)]
noncomputable def ammonitelaw12_tame.C (K : Nat) : CEnv (resT [T27]).den := ⟨ammonitelaw12_tame.E K, 36, K, ammonitelaw12_tame.nm, ammonitelaw12_tame.ret K, [], fun _ => false, ammonitelaw12_tame.pre, lookG []⟩
noncomputable def ammonitelaw12_tame.f (K : Nat) (x : (prodT [T27]).den) : Option (resT [T27]).den := exec ammonitelaw12_tame.code (ammonitelaw12_tame.C K) (ammonitelaw12_tame.ret K) (init [T27] x)
theorem ammonitelaw12_tame.eq (K : Nat) (c0 : D27) : ammonitelaw12_tame.f K (c0, ()) =
 ((chks [(decide ((0 : Int) ≤ (if (45 : Int) < (List.length c0.2.1 : Int) then (45 : Int) else (List.length c0.2.1 : Int)))), (decide ((if (45 : Int) < (List.length c0.2.1 : Int) then (45 : Int) else (List.length c0.2.1 : Int)) ≤ (List.length c0.2.1 : Int)))]
 (chks [(decide ((0 : Int) ≤ (if (5 : Int) < (List.length c0.2.2.2.1 : Int) then (5 : Int) else (List.length c0.2.2.2.1 : Int)))), (decide ((if (5 : Int) < (List.length c0.2.2.2.1 : Int) then (5 : Int) else (List.length c0.2.2.2.1 : Int)) ≤ (List.length c0.2.2.2.1 : Int)))]
 (chks [(decide ((0 : Int) ≤ (if (5 : Int) < (List.length c0.2.2.2.2.1 : Int) then (5 : Int) else (List.length c0.2.2.2.2.1 : Int)))), (decide ((if (5 : Int) < (List.length c0.2.2.2.2.1 : Int) then (5 : Int) else (List.length c0.2.2.2.2.1 : Int)) ≤ (List.length c0.2.2.2.2.1 : Int)))]
 (chks [(decide ((0 : Int) ≤ (if (5 : Int) < (List.length c0.2.2.2.2.2.1 : Int) then (5 : Int) else (List.length c0.2.2.2.2.2.1 : Int)))), (decide ((if (5 : Int) < (List.length c0.2.2.2.2.2.1 : Int) then (5 : Int) else (List.length c0.2.2.2.2.2.1 : Int)) ≤ (List.length c0.2.2.2.2.2.1 : Int)))]
 (some (c0.1, ((cutL c0.2.1 none (some (if (45 : Int) < (List.length c0.2.1 : Int) then (45 : Int) else (List.length c0.2.1 : Int)))), (c0.2.2.1, ((cutL c0.2.2.2.1 none (some (if (5 : Int) < (List.length c0.2.2.2.1 : Int) then (5 : Int) else (List.length c0.2.2.2.1 : Int)))), ((cutL c0.2.2.2.2.1 none (some (if (5 : Int) < (List.length c0.2.2.2.2.1 : Int) then (5 : Int) else (List.length c0.2.2.2.2.1 : Int)))), ((cutL c0.2.2.2.2.2.1 none (some (if (5 : Int) < (List.length c0.2.2.2.2.2.1 : Int) then (5 : Int) else (List.length c0.2.2.2.2.2.1 : Int)))), (c0.2.2.2.2.2.2.1, ())))))))))))) : Option D27) := by kernel_rfl
theorem ammonitelaw12_tame.tbOk (K : Nat) : TbOk Try.prog (ammonitelaw12_tame.tb K) := by
 intro e he
 simp only [ammonitelaw12_tame.tb, List.mem_cons, List.not_mem_nil, or_false] at he
theorem ammonitelaw12_tame.itsOk : ItbOk Try.prog ammonitelaw12_tame.its := by
 intro e he
 simp only [ammonitelaw12_tame.its, List.mem_cons, List.not_mem_nil, or_false] at he
theorem ammonitelaw12_tame.ok (K : Nat) : PureC Try.prog 24 ⟨[T27], [T27], ammonitelaw12_tame.f K⟩ :=
 fn_sound (itOk _ _) (E := ammonitelaw12_tame.E K) (full_ok tys_ok ammonitelaw12_tame.itsOk (ammonitelaw12_tame.tbOk K) par_ok bld_ok bty_ok) mixed Try.func24 (c := ammonitelaw12_tame.code) (by kernel_rfl) (by kernel_rfl) (by decide) (by kernel_rfl)
noncomputable def ammonitelaw12_CheckinRuns.tb (K : Nat) : Tb := [(9, ⟨[T27], [.str], checkin_Print.f K⟩), (10, ⟨[.str], [T27, .bool], checkin_Read.f K⟩)]
noncomputable def ammonitelaw12_CheckinRuns.its : Itb := []
noncomputable def ammonitelaw12_CheckinRuns.code : Code := (Try.f3.body).getD .skip
noncomputable def ammonitelaw12_CheckinRuns.nm : Nat → NormSpec := lookN []
noncomputable def ammonitelaw12_CheckinRuns.pre : Nat → Option NormSpec := lookP []
noncomputable def ammonitelaw12_CheckinRuns.E (K : Nat) : Env := ⟨lookR tys, bty, fullCall ammonitelaw12_CheckinRuns.its (ammonitelaw12_CheckinRuns.tb K) bids⟩
noncomputable def ammonitelaw12_CheckinRuns.ret (K : Nat) : St → Option (resT [.bool]).den := retA (ammonitelaw12_CheckinRuns.E K) [.bool] [(.tmp 0)]
noncomputable def ammonitelaw12_CheckinRuns.C (K : Nat) : CEnv (resT [.bool]).den := ⟨ammonitelaw12_CheckinRuns.E K, 42, K, ammonitelaw12_CheckinRuns.nm, ammonitelaw12_CheckinRuns.ret K, [], fun _ => false, ammonitelaw12_CheckinRuns.pre, lookG []⟩
noncomputable def ammonitelaw12_CheckinRuns.f (K : Nat) (x : (prodT []).den) : Option (resT [.bool]).den := exec ammonitelaw12_CheckinRuns.code (ammonitelaw12_CheckinRuns.C K) (ammonitelaw12_CheckinRuns.ret K) (init [] x)
theorem ammonitelaw12_CheckinRuns.eq (K : Nat)  : ammonitelaw12_CheckinRuns.f K (()) =
 (((checkin_Print.f K (([], (([104, 105] : List UInt8), ((5 : Int), (([] : (List D56)), (([] : (List (List UInt8))), (([] : (List D42)), (([109, 101] : List UInt8), ()))))))), ())).bind fun v_1 =>
 ((checkin_Read.f K (v_1, ())).bind fun v_2 =>
 (bif (decide ((List.length v_1 : Int) = (58 : Int))) then
 (chks [(decide ((14 : Int) ≤ (List.length v_1 : Int)))]
 (bif (decide ((cutL v_1 none (some (14 : Int))) = ([67, 32, 46, 104, 105, 10, 68, 32, 53, 10, 85, 32, 109, 101] : List UInt8))) then
 (bif v_2.2.1 then
 (bif (decide (v_2.1.2.1 = ([104, 105] : List UInt8))) then
 (bif (decide (v_2.1.2.2.1 = (5 : Int))) then
 (bif (decide (v_2.1.2.2.2.2.2.2.1 = ([109, 101] : List UInt8))) then
 ((checkin_Print.f K (([], ([], (0, (([] : (List D56)), (([] : (List (List UInt8))), (([] : (List D42)), ([], ()))))))), ())).bind fun v_3 =>
 (some (decide (v_3 = ([] : List UInt8)))))
 else
 (some false))
 else
 (some false))
 else
 (some false))
 else
 (some false))
 else
 (some false)))
 else
 (some false)))) : Option Bool) := by kernel_rfl
theorem ammonitelaw12_CheckinRuns.tbOk (K : Nat) : TbOk Try.prog (ammonitelaw12_CheckinRuns.tb K) := by
 intro e he
 simp only [ammonitelaw12_CheckinRuns.tb, List.mem_cons, List.not_mem_nil, or_false] at he
 rcases he with rfl | rfl
 · exact ⟨checkin_Print.ok K, enters_of Try.func9 (by kernel_rfl) rfl⟩
 · exact ⟨checkin_Read.ok K, enters_of Try.func10 (by kernel_rfl) rfl⟩
theorem ammonitelaw12_CheckinRuns.itsOk : ItbOk Try.prog ammonitelaw12_CheckinRuns.its := by
 intro e he
 simp only [ammonitelaw12_CheckinRuns.its, List.mem_cons, List.not_mem_nil, or_false] at he
theorem ammonitelaw12_CheckinRuns.ok (K : Nat) : PureC Try.prog 3 ⟨[], [.bool], ammonitelaw12_CheckinRuns.f K⟩ :=
 fn_sound (itOk _ _) (E := ammonitelaw12_CheckinRuns.E K) (full_ok tys_ok ammonitelaw12_CheckinRuns.itsOk (ammonitelaw12_CheckinRuns.tbOk K) par_ok bld_ok bty_ok) mixed Try.func3 (c := ammonitelaw12_CheckinRuns.code) (by kernel_rfl) (by kernel_rfl) (by decide) (by kernel_rfl)
noncomputable def ammonitelaw12_CheckinTells.tb (K : Nat) : Tb := [(24, ⟨[T27], [T27], ammonitelaw12_tame.f K⟩), (13, ⟨[T35], [T27], ammonitekeep_Checkin_Checkin.f K⟩), (25, ⟨[T27], [.bool], ammoniteref10_RightCheckin.f K⟩), (9, ⟨[T27], [.str], checkin_Print.f K⟩), (16, ⟨[T27], [.bool], checkin_Right.f K⟩), (26, ⟨[T27, T27], [.bool], checkin_Same.f K⟩), (15, ⟨[T27, T27], [.bool], ammonitekeep_Checkins.f K⟩), (3, ⟨[], [.bool], ammonitelaw12_CheckinRuns.f K⟩), (10, ⟨[.str], [T27, .bool], checkin_Read.f K⟩), (12, ⟨[T27], [.str], ammoniteref10_Checkin.f K⟩)]
noncomputable def ammonitelaw12_CheckinTells.its : Itb := []
noncomputable def ammonitelaw12_CheckinTells.code : Code := (Try.f7.body).getD .skip
noncomputable def ammonitelaw12_CheckinTells.nm : Nat → NormSpec := lookN []
noncomputable def ammonitelaw12_CheckinTells.pre : Nat → Option NormSpec := lookP [(4, ⟨[(3, (.data .bool)), (6, .raw), (9, .raw)], [(6, [(.data (.int .i64)), (.data (.int .i64)), (.data (.int .i64)), (.data (.int .i64)), (.data (.slice (.int .i64))), (.data (.slice (.int .i64))), (.data (.slice (.int .i64))), (.data (.slice (.int .i64))), (.data (.slice (.int .i64)))]), (9, [(.data .str), (.data .str), (.data (.int .i64)), (.data (.slice T56)), (.data (.slice .str)), (.data (.slice T42)), (.data .str)])], []⟩), (8, ⟨[(6, .raw), (9, .raw), (10, (.data .bool)), (11, (.data .str))], [(6, [(.data (.int .i64)), (.data (.int .i64)), (.data (.int .i64)), (.data (.int .i64)), (.data (.slice (.int .i64))), (.data (.slice (.int .i64))), (.data (.slice (.int .i64))), (.data (.slice (.int .i64))), (.data (.slice (.int .i64)))]), (9, [(.data .str), (.data .str), (.data (.int .i64)), (.data (.slice T56)), (.data (.slice .str)), (.data (.slice T42)), (.data .str)])], []⟩)]
noncomputable def ammonitelaw12_CheckinTells.E (K : Nat) : Env := ⟨lookR tys, bty, fullCall ammonitelaw12_CheckinTells.its (ammonitelaw12_CheckinTells.tb K) bids⟩
noncomputable def ammonitelaw12_CheckinTells.ret (K : Nat) : St → Option (resT [.bool]).den := retA (ammonitelaw12_CheckinTells.E K) [.bool] [(.tmp 8)]
noncomputable def ammonitelaw12_CheckinTells.C (K : Nat) : CEnv (resT [.bool]).den := ⟨ammonitelaw12_CheckinTells.E K, 89, K, ammonitelaw12_CheckinTells.nm, ammonitelaw12_CheckinTells.ret K, [], fun _ => false, ammonitelaw12_CheckinTells.pre, lookG [(4, 0), (8, 1)]⟩
noncomputable def ammonitelaw12_CheckinTells.f (K : Nat) (x : (prodT [T27, T35, T35, .bool]).den) : Option (resT [.bool]).den := exec ammonitelaw12_CheckinTells.code (ammonitelaw12_CheckinTells.C K) (ammonitelaw12_CheckinTells.ret K) (init [T27, T35, T35, .bool] x)
noncomputable def ammonitelaw12_CheckinTells.mj4 (own3 : Bool) (bo6_0 : Int) (bo6_1 : Int) (bo6_2 : Int) (bo6_3 : Int) (bo6_4 : (List Int)) (bo6_5 : (List Int)) (bo6_6 : (List Int)) (bo6_7 : (List Int)) (bo6_8 : (List Int)) (bc9_0 : (List UInt8)) (bc9_1 : (List UInt8)) (bc9_2 : Int) (bc9_3 : (List D56)) (bc9_4 : (List (List UInt8))) (bc9_5 : (List D42)) (bc9_6 : (List UInt8)) : St := mkSt [(3, (.d .bool (own3 : Bool))), (6, (.ptr 6 0)), (9, (.ptr 9 0))] [(6, (.box [(.d (.int .i64) (bo6_0 : Int)), (.d (.int .i64) (bo6_1 : Int)), (.d (.int .i64) (bo6_2 : Int)), (.d (.int .i64) (bo6_3 : Int)), (.d (.slice (.int .i64)) (bo6_4 : (List Int))), (.d (.slice (.int .i64)) (bo6_5 : (List Int))), (.d (.slice (.int .i64)) (bo6_6 : (List Int))), (.d (.slice (.int .i64)) (bo6_7 : (List Int))), (.d (.slice (.int .i64)) (bo6_8 : (List Int)))])), (9, (.box [(.d .str (bc9_0 : (List UInt8))), (.d .str (bc9_1 : (List UInt8))), (.d (.int .i64) (bc9_2 : Int)), (.d (.slice T56) (bc9_3 : (List D56))), (.d (.slice .str) (bc9_4 : (List (List UInt8)))), (.d (.slice T42) (bc9_5 : (List D42))), (.d .str (bc9_6 : (List UInt8)))]))]
noncomputable def ammonitelaw12_CheckinTells.j4 (K : Nat)  (own3 : Bool) (bo6_0 : Int) (bo6_1 : Int) (bo6_2 : Int) (bo6_3 : Int) (bo6_4 : (List Int)) (bo6_5 : (List Int)) (bo6_6 : (List Int)) (bo6_7 : (List Int)) (bo6_8 : (List Int)) (bc9_0 : (List UInt8)) (bc9_1 : (List UInt8)) (bc9_2 : Int) (bc9_3 : (List D56)) (bc9_4 : (List (List UInt8))) (bc9_5 : (List D42)) (bc9_6 : (List UInt8)) : Option Bool := pointAt [.r, .r, .r, .l] ammonitelaw12_CheckinTells.code (ammonitelaw12_CheckinTells.C K) (ammonitelaw12_CheckinTells.ret K) [] (ammonitelaw12_CheckinTells.mj4 own3 bo6_0 bo6_1 bo6_2 bo6_3 bo6_4 bo6_5 bo6_6 bo6_7 bo6_8 bc9_0 bc9_1 bc9_2 bc9_3 bc9_4 bc9_5 bc9_6)
noncomputable def ammonitelaw12_CheckinTells.mj8 (right10 : Bool) (s11 : (List UInt8)) (bo6_0 : Int) (bo6_1 : Int) (bo6_2 : Int) (bo6_3 : Int) (bo6_4 : (List Int)) (bo6_5 : (List Int)) (bo6_6 : (List Int)) (bo6_7 : (List Int)) (bo6_8 : (List Int)) (bc9_0 : (List UInt8)) (bc9_1 : (List UInt8)) (bc9_2 : Int) (bc9_3 : (List D56)) (bc9_4 : (List (List UInt8))) (bc9_5 : (List D42)) (bc9_6 : (List UInt8)) : St := mkSt [(6, (.ptr 6 0)), (9, (.ptr 9 0)), (10, (.d .bool (right10 : Bool))), (11, (.d .str (s11 : (List UInt8))))] [(6, (.box [(.d (.int .i64) (bo6_0 : Int)), (.d (.int .i64) (bo6_1 : Int)), (.d (.int .i64) (bo6_2 : Int)), (.d (.int .i64) (bo6_3 : Int)), (.d (.slice (.int .i64)) (bo6_4 : (List Int))), (.d (.slice (.int .i64)) (bo6_5 : (List Int))), (.d (.slice (.int .i64)) (bo6_6 : (List Int))), (.d (.slice (.int .i64)) (bo6_7 : (List Int))), (.d (.slice (.int .i64)) (bo6_8 : (List Int)))])), (9, (.box [(.d .str (bc9_0 : (List UInt8))), (.d .str (bc9_1 : (List UInt8))), (.d (.int .i64) (bc9_2 : Int)), (.d (.slice T56) (bc9_3 : (List D56))), (.d (.slice .str) (bc9_4 : (List (List UInt8)))), (.d (.slice T42) (bc9_5 : (List D42))), (.d .str (bc9_6 : (List UInt8)))]))]
noncomputable def ammonitelaw12_CheckinTells.j8 (K : Nat)  (right10 : Bool) (s11 : (List UInt8)) (bo6_0 : Int) (bo6_1 : Int) (bo6_2 : Int) (bo6_3 : Int) (bo6_4 : (List Int)) (bo6_5 : (List Int)) (bo6_6 : (List Int)) (bo6_7 : (List Int)) (bo6_8 : (List Int)) (bc9_0 : (List UInt8)) (bc9_1 : (List UInt8)) (bc9_2 : Int) (bc9_3 : (List D56)) (bc9_4 : (List (List UInt8))) (bc9_5 : (List D42)) (bc9_6 : (List UInt8)) : Option Bool := pointAt [.r, .r, .r, .r, .r, .r, .l] ammonitelaw12_CheckinTells.code (ammonitelaw12_CheckinTells.C K) (ammonitelaw12_CheckinTells.ret K) [] (ammonitelaw12_CheckinTells.mj8 right10 s11 bo6_0 bo6_1 bo6_2 bo6_3 bo6_4 bo6_5 bo6_6 bo6_7 bo6_8 bc9_0 bc9_1 bc9_2 bc9_3 bc9_4 bc9_5 bc9_6)
theorem ammonitelaw12_CheckinTells.eq (K : Nat) (raw0 : D27) (k1 : D35) (o2 : D35) (own3 : Bool) : ammonitelaw12_CheckinTells.f K (raw0, k1, o2, own3, ()) =
 (((ammonitelaw12_tame.f K ((raw0.1, (raw0.2.1, (raw0.2.2.1, (raw0.2.2.2.1, (raw0.2.2.2.2.1, (raw0.2.2.2.2.2.1, (raw0.2.2.2.2.2.2.1, ()))))))), ())).bind fun v_1 =>
 (bif own3 then
 ((ammonitekeep_Checkin_Checkin.f K ((k1.1, (k1.2.1, (k1.2.2.1, ((k1.2.2.2.1.1, (k1.2.2.2.1.2.1, ())), (k1.2.2.2.2.1, (k1.2.2.2.2.2.1, (k1.2.2.2.2.2.2.1, (k1.2.2.2.2.2.2.2.1, ())))))))), ())).bind fun v_2 =>
 (ammonitelaw12_CheckinTells.j4 K own3 o2.1 o2.2.1 o2.2.2.1 o2.2.2.2.1.1 o2.2.2.2.1.2.1 o2.2.2.2.2.1 o2.2.2.2.2.2.1 o2.2.2.2.2.2.2.1 o2.2.2.2.2.2.2.2.1 v_2.1 v_2.2.1 v_2.2.2.1 v_2.2.2.2.1 v_2.2.2.2.2.1 v_2.2.2.2.2.2.1 v_2.2.2.2.2.2.2.1))
 else
 (ammonitelaw12_CheckinTells.j4 K own3 o2.1 o2.2.1 o2.2.2.1 o2.2.2.2.1.1 o2.2.2.2.1.2.1 o2.2.2.2.2.1 o2.2.2.2.2.2.1 o2.2.2.2.2.2.2.1 o2.2.2.2.2.2.2.2.1 v_1.1 v_1.2.1 v_1.2.2.1 v_1.2.2.2.1 v_1.2.2.2.2.1 v_1.2.2.2.2.2.1 v_1.2.2.2.2.2.2.1))) : Option Bool) := by kernel_rfl
theorem ammonitelaw12_CheckinTells.j4_eq {K : Nat} (hK : 1000 ≤ K)  (own3 : Bool) (bo6_0 : Int) (bo6_1 : Int) (bo6_2 : Int) (bo6_3 : Int) (bo6_4 : (List Int)) (bo6_5 : (List Int)) (bo6_6 : (List Int)) (bo6_7 : (List Int)) (bo6_8 : (List Int)) (bc9_0 : (List UInt8)) (bc9_1 : (List UInt8)) (bc9_2 : Int) (bc9_3 : (List D56)) (bc9_4 : (List (List UInt8))) (bc9_5 : (List D42)) (bc9_6 : (List UInt8)) : ammonitelaw12_CheckinTells.j4 K own3 bo6_0 bo6_1 bo6_2 bo6_3 bo6_4 bo6_5 bo6_6 bo6_7 bo6_8 bc9_0 bc9_1 bc9_2 bc9_3 bc9_4 bc9_5 bc9_6 =
 (((ammoniteref10_RightCheckin.f K ((bc9_0, (bc9_1, (bc9_2, (bc9_3, (bc9_4, (bc9_5, (bc9_6, ()))))))), ())).bind fun v_1 =>
 ((checkin_Print.f K ((bc9_0, (bc9_1, (bc9_2, (bc9_3, (bc9_4, (bc9_5, (bc9_6, ()))))))), ())).bind fun v_2 =>
 ((checkin_Right.f K ((bc9_0, (bc9_1, (bc9_2, (bc9_3, (bc9_4, (bc9_5, (bc9_6, ()))))))), ())).bind fun v_3 =>
 (bif (!(v_3 == v_1)) then
 (some false)
 else
 (bif (!((!(decide (v_2 = ([] : List UInt8)))) == v_1)) then
 (some false)
 else
 (bif own3 then
 (bif (!v_1) then
 (some false)
 else
 ((checkin_Same.f K ((bc9_0, (bc9_1, (bc9_2, (bc9_3, (bc9_4, (bc9_5, (bc9_6, ()))))))), (bc9_0, (bc9_1, (bc9_2, (bc9_3, (bc9_4, (bc9_5, (bc9_6, ()))))))), ())).bind fun v_4 =>
 (bif (!v_4) then
 (some false)
 else
 (ammonitelaw12_CheckinTells.j8 K v_1 v_2 bo6_0 bo6_1 bo6_2 bo6_3 bo6_4 bo6_5 bo6_6 bo6_7 bo6_8 bc9_0 bc9_1 bc9_2 bc9_3 bc9_4 bc9_5 bc9_6))))
 else
 ((checkin_Same.f K ((bc9_0, (bc9_1, (bc9_2, (bc9_3, (bc9_4, (bc9_5, (bc9_6, ()))))))), (bc9_0, (bc9_1, (bc9_2, (bc9_3, (bc9_4, (bc9_5, (bc9_6, ()))))))), ())).bind fun v_5 =>
 (bif (!v_5) then
 (some false)
 else
 (ammonitelaw12_CheckinTells.j8 K v_1 v_2 bo6_0 bo6_1 bo6_2 bo6_3 bo6_4 bo6_5 bo6_6 bo6_7 bo6_8 bc9_0 bc9_1 bc9_2 bc9_3 bc9_4 bc9_5 bc9_6))))))))) : Option Bool) := by
 obtain ⟨K, rfl⟩ : ∃ m, K = m + 1 := ⟨K - 1, by omega⟩
 kernel_rfl
theorem ammonitelaw12_CheckinTells.j8_eq {K : Nat} (hK : 1000 ≤ K)  (right10 : Bool) (s11 : (List UInt8)) (bo6_0 : Int) (bo6_1 : Int) (bo6_2 : Int) (bo6_3 : Int) (bo6_4 : (List Int)) (bo6_5 : (List Int)) (bo6_6 : (List Int)) (bo6_7 : (List Int)) (bo6_8 : (List Int)) (bc9_0 : (List UInt8)) (bc9_1 : (List UInt8)) (bc9_2 : Int) (bc9_3 : (List D56)) (bc9_4 : (List (List UInt8))) (bc9_5 : (List D42)) (bc9_6 : (List UInt8)) : ammonitelaw12_CheckinTells.j8 K right10 s11 bo6_0 bo6_1 bo6_2 bo6_3 bo6_4 bo6_5 bo6_6 bo6_7 bo6_8 bc9_0 bc9_1 bc9_2 bc9_3 bc9_4 bc9_5 bc9_6 =
 (((ammonitekeep_Checkin_Checkin.f K ((bo6_0, (bo6_1, (bo6_2, ((bo6_3, (bo6_4, ())), (bo6_5, (bo6_6, (bo6_7, (bo6_8, ())))))))), ())).bind fun v_1 =>
 ((checkin_Same.f K ((bc9_0, (bc9_1, (bc9_2, (bc9_3, (bc9_4, (bc9_5, (bc9_6, ()))))))), (v_1.1, (v_1.2.1, (v_1.2.2.1, (v_1.2.2.2.1, (v_1.2.2.2.2.1, (v_1.2.2.2.2.2.1, (v_1.2.2.2.2.2.2.1, ()))))))), ())).bind fun v_2 =>
 ((ammonitekeep_Checkins.f K ((bc9_0, (bc9_1, (bc9_2, (bc9_3, (bc9_4, (bc9_5, (bc9_6, ()))))))), (v_1.1, (v_1.2.1, (v_1.2.2.1, (v_1.2.2.2.1, (v_1.2.2.2.2.1, (v_1.2.2.2.2.2.1, (v_1.2.2.2.2.2.2.1, ()))))))), ())).bind fun v_3 =>
 (bif (!(v_2 == v_3)) then
 (some false)
 else
 (bif (!right10) then
 ((ammonitelaw12_CheckinRuns.f K (())).bind fun v_4 =>
 (some v_4))
 else
 ((checkin_Read.f K (s11, ())).bind fun v_5 =>
 ((ammoniteref10_Checkin.f K ((bc9_0, (bc9_1, (bc9_2, (bc9_3, (bc9_4, (bc9_5, (bc9_6, ()))))))), ())).bind fun v_6 =>
 (bif (decide (s11 = v_6)) then
 (bif v_5.2.1 then
 ((ammonitekeep_Checkins.f K ((v_5.1.1, (v_5.1.2.1, (v_5.1.2.2.1, (v_5.1.2.2.2.1, (v_5.1.2.2.2.2.1, (v_5.1.2.2.2.2.2.1, (v_5.1.2.2.2.2.2.2.1, ()))))))), (bc9_0, (bc9_1, (bc9_2, (bc9_3, (bc9_4, (bc9_5, (bc9_6, ()))))))), ())).bind fun v_7 =>
 (bif v_7 then
 ((checkin_Print.f K ((v_1.1, (v_1.2.1, (v_1.2.2.1, (v_1.2.2.2.1, (v_1.2.2.2.2.1, (v_1.2.2.2.2.2.1, (v_1.2.2.2.2.2.2.1, ()))))))), ())).bind fun v_8 =>
 ((ammonitekeep_Checkins.f K ((bc9_0, (bc9_1, (bc9_2, (bc9_3, (bc9_4, (bc9_5, (bc9_6, ()))))))), (v_1.1, (v_1.2.1, (v_1.2.2.1, (v_1.2.2.2.1, (v_1.2.2.2.2.1, (v_1.2.2.2.2.2.1, (v_1.2.2.2.2.2.2.1, ()))))))), ())).bind fun v_9 =>
 (bif ((decide (s11 = v_8)) == v_9) then
 ((ammonitelaw12_CheckinRuns.f K (())).bind fun v_10 =>
 (some v_10))
 else
 (some false))))
 else
 (some false)))
 else
 (some false))
 else
 (some false))))))))) : Option Bool) := by
 obtain ⟨K, rfl⟩ : ∃ m, K = m + 2 := ⟨K - 2, by omega⟩
 kernel_rfl
theorem ammonitelaw12_CheckinTells.tbOk (K : Nat) : TbOk Try.prog (ammonitelaw12_CheckinTells.tb K) := by
 intro e he
 simp only [ammonitelaw12_CheckinTells.tb, List.mem_cons, List.not_mem_nil, or_false] at he
 rcases he with rfl | rfl | rfl | rfl | rfl | rfl | rfl | rfl | rfl | rfl
 · exact ⟨ammonitelaw12_tame.ok K, enters_of Try.func24 (by kernel_rfl) rfl⟩
 · exact ⟨ammonitekeep_Checkin_Checkin.ok K, enters_of Try.func13 (by kernel_rfl) rfl⟩
 · exact ⟨ammoniteref10_RightCheckin.ok K, enters_of Try.func25 (by kernel_rfl) rfl⟩
 · exact ⟨checkin_Print.ok K, enters_of Try.func9 (by kernel_rfl) rfl⟩
 · exact ⟨checkin_Right.ok K, enters_of Try.func16 (by kernel_rfl) rfl⟩
 · exact ⟨checkin_Same.ok K, enters_of Try.func26 (by kernel_rfl) rfl⟩
 · exact ⟨ammonitekeep_Checkins.ok K, enters_of Try.func15 (by kernel_rfl) rfl⟩
 · exact ⟨ammonitelaw12_CheckinRuns.ok K, enters_of Try.func3 (by kernel_rfl) rfl⟩
 · exact ⟨checkin_Read.ok K, enters_of Try.func10 (by kernel_rfl) rfl⟩
 · exact ⟨ammoniteref10_Checkin.ok K, enters_of Try.func12 (by kernel_rfl) rfl⟩
theorem ammonitelaw12_CheckinTells.itsOk : ItbOk Try.prog ammonitelaw12_CheckinTells.its := by
 intro e he
 simp only [ammonitelaw12_CheckinTells.its, List.mem_cons, List.not_mem_nil, or_false] at he
theorem ammonitelaw12_CheckinTells.ok (K : Nat) : PureC Try.prog 7 ⟨[T27, T35, T35, .bool], [.bool], ammonitelaw12_CheckinTells.f K⟩ :=
 fn_sound (itOk _ _) (E := ammonitelaw12_CheckinTells.E K) (full_ok tys_ok ammonitelaw12_CheckinTells.itsOk (ammonitelaw12_CheckinTells.tbOk K) par_ok bld_ok bty_ok) mixed Try.func7 (c := ammonitelaw12_CheckinTells.code) (by kernel_rfl) (by kernel_rfl) (by decide) (by kernel_rfl)
noncomputable def ammonitelaw12_CheckinEdges.tb (K : Nat) : Tb := [(13, ⟨[T35], [T27], ammonitekeep_Checkin_Checkin.f K⟩), (16, ⟨[T27], [.bool], checkin_Right.f K⟩), (23, ⟨[(.int .i64), (.int .i64), (.int .i64)], [(.int .i64)], ammonitebook_Within.f K⟩), (20, ⟨[.str], [.str], ammoniteref1_Sum.f K⟩), (12, ⟨[T27], [.str], ammoniteref10_Checkin.f K⟩), (10, ⟨[.str], [T27, .bool], checkin_Read.f K⟩), (9, ⟨[T27], [.str], checkin_Print.f K⟩), (3, ⟨[], [.bool], ammonitelaw12_CheckinRuns.f K⟩)]
noncomputable def ammonitelaw12_CheckinEdges.its : Itb := []
noncomputable def ammonitelaw12_CheckinEdges.code : Code := (Try.f6.body).getD .skip
noncomputable def ammonitelaw12_CheckinEdges.nm : Nat → NormSpec := lookN []
noncomputable def ammonitelaw12_CheckinEdges.pre : Nat → Option NormSpec := lookP [(22, ⟨[(7, .raw)], [(7, [(.data .str), (.data .str), (.data (.int .i64)), (.data (.slice T56)), (.data (.slice .str)), (.data (.slice T42)), (.data .str)])], []⟩)]
noncomputable def ammonitelaw12_CheckinEdges.E (K : Nat) : Env := ⟨lookR tys, bty, fullCall ammonitelaw12_CheckinEdges.its (ammonitelaw12_CheckinEdges.tb K) bids⟩
noncomputable def ammonitelaw12_CheckinEdges.ret (K : Nat) : St → Option (resT [.bool]).den := retA (ammonitelaw12_CheckinEdges.E K) [.bool] [(.tmp 6)]
noncomputable def ammonitelaw12_CheckinEdges.C (K : Nat) : CEnv (resT [.bool]).den := ⟨ammonitelaw12_CheckinEdges.E K, 85, K, ammonitelaw12_CheckinEdges.nm, ammonitelaw12_CheckinEdges.ret K, [], fun _ => false, ammonitelaw12_CheckinEdges.pre, lookG [(22, 0)]⟩
noncomputable def ammonitelaw12_CheckinEdges.f (K : Nat) (x : (prodT [T35, (.int .i64), (.int .i64)]).den) : Option (resT [.bool]).den := exec ammonitelaw12_CheckinEdges.code (ammonitelaw12_CheckinEdges.C K) (ammonitelaw12_CheckinEdges.ret K) (init [T35, (.int .i64), (.int .i64)] x)
noncomputable def ammonitelaw12_CheckinEdges.mj22 (bc7_0 : (List UInt8)) (bc7_1 : (List UInt8)) (bc7_2 : Int) (bc7_3 : (List D56)) (bc7_4 : (List (List UInt8))) (bc7_5 : (List D42)) (bc7_6 : (List UInt8)) : St := mkSt [(7, (.ptr 7 0))] [(7, (.box [(.d .str (bc7_0 : (List UInt8))), (.d .str (bc7_1 : (List UInt8))), (.d (.int .i64) (bc7_2 : Int)), (.d (.slice T56) (bc7_3 : (List D56))), (.d (.slice .str) (bc7_4 : (List (List UInt8)))), (.d (.slice T42) (bc7_5 : (List D42))), (.d .str (bc7_6 : (List UInt8)))]))]
noncomputable def ammonitelaw12_CheckinEdges.j22 (K : Nat)  (bc7_0 : (List UInt8)) (bc7_1 : (List UInt8)) (bc7_2 : Int) (bc7_3 : (List D56)) (bc7_4 : (List (List UInt8))) (bc7_5 : (List D42)) (bc7_6 : (List UInt8)) : Option Bool := pointAt [.r, .r, .r, .r, .r, .r, .l] ammonitelaw12_CheckinEdges.code (ammonitelaw12_CheckinEdges.C K) (ammonitelaw12_CheckinEdges.ret K) [] (ammonitelaw12_CheckinEdges.mj22 bc7_0 bc7_1 bc7_2 bc7_3 bc7_4 bc7_5 bc7_6)
theorem ammonitelaw12_CheckinEdges.eq (K : Nat) (k0 : D35) (what1 : Int) (n2 : Int) : ammonitelaw12_CheckinEdges.f K (k0, what1, n2, ()) =
 (((ammonitekeep_Checkin_Checkin.f K ((k0.1, (k0.2.1, (k0.2.2.1, ((k0.2.2.2.1.1, (k0.2.2.2.1.2.1, ())), (k0.2.2.2.2.1, (k0.2.2.2.2.2.1, (k0.2.2.2.2.2.2.1, (k0.2.2.2.2.2.2.2.1, ())))))))), ())).bind fun v_1 =>
 ((checkin_Right.f K ((v_1.1, (v_1.2.1, (v_1.2.2.1, (v_1.2.2.2.1, (v_1.2.2.2.2.1, (v_1.2.2.2.2.2.1, (v_1.2.2.2.2.2.2.1, ()))))))), ())).bind fun v_2 =>
 (bif (!v_2) then
 (some false)
 else
 ((ammonitebook_Within.f K (n2, (1 : Int), (99 : Int), ())).bind fun v_3 =>
 ((ammoniteref1_Sum.f K (([120] : List UInt8), ())).bind fun v_4 =>
 ((ammonitebook_Within.f K (what1, (0 : Int), (7 : Int), ())).bind fun v_5 =>
 (bif (decide (v_5 = (0 : Int))) then
 (ammonitelaw12_CheckinEdges.j22 K v_1.1 v_1.2.1 (IntKind.wrap .i64 (0 - v_3)) v_1.2.2.2.1 v_1.2.2.2.2.1 v_1.2.2.2.2.2.1 v_1.2.2.2.2.2.2.1)
 else
 (bif (decide (v_5 = (1 : Int))) then
 (ammonitelaw12_CheckinEdges.j22 K v_1.1 v_1.2.1 (IntKind.wrap .i64 ((1073741824 : Int) + v_3)) v_1.2.2.2.1 v_1.2.2.2.2.1 v_1.2.2.2.2.2.1 v_1.2.2.2.2.2.2.1)
 else
 (bif (decide (v_5 = (2 : Int))) then
 (chks [(decide (0 ≤ (IntKind.wrap .i64 ((40 : Int) + v_3)))), (decide ((IntKind.wrap .i64 ((40 : Int) + v_3)) ≤ (IntKind.wrap .i64 ((40 : Int) + v_3)))), (decide ((IntKind.wrap .i64 ((40 : Int) + v_3)) * (1 : Nat) ≤ 140737488355328)), (decide ((IntKind.wrap .i64 ((40 : Int) + v_3)) < 4611686018427387904))]
 (ammonitelaw12_CheckinEdges.j22 K v_1.1 (textOf (List.replicate (Int.toNat (IntKind.wrap .i64 ((40 : Int) + v_3))) 0)) v_1.2.2.1 v_1.2.2.2.1 v_1.2.2.2.2.1 v_1.2.2.2.2.2.1 v_1.2.2.2.2.2.2.1))
 else
 (bif (decide (v_5 = (3 : Int))) then
 ((ammoniteref1_Sum.f K (([121] : List UInt8), ())).bind fun v_6 =>
 (ammonitelaw12_CheckinEdges.j22 K v_1.1 v_1.2.1 v_1.2.2.1 v_1.2.2.2.1 ([v_4, v_6, v_4] : List (List UInt8)) v_1.2.2.2.2.2.1 v_1.2.2.2.2.2.2.1))
 else
 (bif (decide (v_5 = (4 : Int))) then
 (ammonitelaw12_CheckinEdges.j22 K v_1.1 v_1.2.1 v_1.2.2.1 v_1.2.2.2.1 v_1.2.2.2.2.1 v_1.2.2.2.2.2.1 ([] : List UInt8))
 else
 (bif (decide (v_5 = (5 : Int))) then
 (ammonitelaw12_CheckinEdges.j22 K ([110, 111, 32, 110, 97, 109, 101] : List UInt8) v_1.2.1 v_1.2.2.1 v_1.2.2.2.1 v_1.2.2.2.2.1 v_1.2.2.2.2.2.1 v_1.2.2.2.2.2.2.1)
 else
 (bif (decide (v_5 = (6 : Int))) then
 (ammonitelaw12_CheckinEdges.j22 K v_1.1 v_1.2.1 v_1.2.2.1 ([(([98] : List UInt8), (v_4, ())), (([97] : List UInt8), (v_4, ()))] : List D56) v_1.2.2.2.2.1 v_1.2.2.2.2.2.1 v_1.2.2.2.2.2.2.1)
 else
 (ammonitelaw12_CheckinEdges.j22 K v_1.1 v_1.2.1 v_1.2.2.1 v_1.2.2.2.1 v_1.2.2.2.2.1 ([((43 : Int), (([116] : List UInt8), (v_4, ([], ()))))] : List D42) v_1.2.2.2.2.2.2.1)))))))))))))) : Option Bool) := by kernel_rfl
theorem ammonitelaw12_CheckinEdges.j22_eq {K : Nat} (hK : 1000 ≤ K)  (bc7_0 : (List UInt8)) (bc7_1 : (List UInt8)) (bc7_2 : Int) (bc7_3 : (List D56)) (bc7_4 : (List (List UInt8))) (bc7_5 : (List D42)) (bc7_6 : (List UInt8)) : ammonitelaw12_CheckinEdges.j22 K bc7_0 bc7_1 bc7_2 bc7_3 bc7_4 bc7_5 bc7_6 =
 (((ammoniteref10_Checkin.f K ((bc7_0, (bc7_1, (bc7_2, (bc7_3, (bc7_4, (bc7_5, (bc7_6, ()))))))), ())).bind fun v_1 =>
 ((checkin_Read.f K (v_1, ())).bind fun v_2 =>
 ((checkin_Right.f K ((bc7_0, (bc7_1, (bc7_2, (bc7_3, (bc7_4, (bc7_5, (bc7_6, ()))))))), ())).bind fun v_3 =>
 (bif (!v_3) then
 ((checkin_Print.f K ((bc7_0, (bc7_1, (bc7_2, (bc7_3, (bc7_4, (bc7_5, (bc7_6, ()))))))), ())).bind fun v_4 =>
 (bif (decide (v_4 = ([] : List UInt8))) then
 (bif (!v_2.2.1) then
 ((ammonitelaw12_CheckinRuns.f K (())).bind fun v_5 =>
 (some v_5))
 else
 (some false))
 else
 (some false)))
 else
 (some false))))) : Option Bool) := by
 obtain ⟨K, rfl⟩ : ∃ m, K = m + 1 := ⟨K - 1, by omega⟩
 kernel_rfl
theorem ammonitelaw12_CheckinEdges.tbOk (K : Nat) : TbOk Try.prog (ammonitelaw12_CheckinEdges.tb K) := by
 intro e he
 simp only [ammonitelaw12_CheckinEdges.tb, List.mem_cons, List.not_mem_nil, or_false] at he
 rcases he with rfl | rfl | rfl | rfl | rfl | rfl | rfl | rfl
 · exact ⟨ammonitekeep_Checkin_Checkin.ok K, enters_of Try.func13 (by kernel_rfl) rfl⟩
 · exact ⟨checkin_Right.ok K, enters_of Try.func16 (by kernel_rfl) rfl⟩
 · exact ⟨ammonitebook_Within.ok K, enters_of Try.func23 (by kernel_rfl) rfl⟩
 · exact ⟨ammoniteref1_Sum.ok K, enters_of Try.func20 (by kernel_rfl) rfl⟩
 · exact ⟨ammoniteref10_Checkin.ok K, enters_of Try.func12 (by kernel_rfl) rfl⟩
 · exact ⟨checkin_Read.ok K, enters_of Try.func10 (by kernel_rfl) rfl⟩
 · exact ⟨checkin_Print.ok K, enters_of Try.func9 (by kernel_rfl) rfl⟩
 · exact ⟨ammonitelaw12_CheckinRuns.ok K, enters_of Try.func3 (by kernel_rfl) rfl⟩
theorem ammonitelaw12_CheckinEdges.itsOk : ItbOk Try.prog ammonitelaw12_CheckinEdges.its := by
 intro e he
 simp only [ammonitelaw12_CheckinEdges.its, List.mem_cons, List.not_mem_nil, or_false] at he
theorem ammonitelaw12_CheckinEdges.ok (K : Nat) : PureC Try.prog 6 ⟨[T35, (.int .i64), (.int .i64)], [.bool], ammonitelaw12_CheckinEdges.f K⟩ :=
 fn_sound (itOk _ _) (E := ammonitelaw12_CheckinEdges.E K) (full_ok tys_ok ammonitelaw12_CheckinEdges.itsOk (ammonitelaw12_CheckinEdges.tbOk K) par_ok bld_ok bty_ok) mixed Try.func6 (c := ammonitelaw12_CheckinEdges.code) (by kernel_rfl) (by kernel_rfl) (by decide) (by kernel_rfl)
noncomputable def ammonitelaw12_CheckinComments.tb (K : Nat) : Tb := [(23, ⟨[(.int .i64), (.int .i64), (.int .i64)], [(.int .i64)], ammonitebook_Within.f K⟩), (9, ⟨[T27], [.str], checkin_Print.f K⟩), (10, ⟨[.str], [T27, .bool], checkin_Read.f K⟩), (27, ⟨[.str], [(.slice T49), .bool], card_Read.f K⟩), (28, ⟨[(.slice T49), (.int .u8)], [(.slice .str), (.int .i64)], card_One.f K⟩), (26, ⟨[T27, T27], [.bool], checkin_Same.f K⟩), (17, ⟨[.str], [.str], ammoniteref10_Escape.f K⟩), (29, ⟨[.str], [(.int .i64)], ammoniteref10_Kind.f K⟩), (3, ⟨[], [.bool], ammonitelaw12_CheckinRuns.f K⟩)]
noncomputable def ammonitelaw12_CheckinComments.its : Itb := []
noncomputable def ammonitelaw12_CheckinComments.code : Code := (Try.f8.body).getD .skip
noncomputable def ammonitelaw12_CheckinComments.nm : Nat → NormSpec := lookN []
noncomputable def ammonitelaw12_CheckinComments.pre : Nat → Option NormSpec := lookP []
noncomputable def ammonitelaw12_CheckinComments.E (K : Nat) : Env := ⟨lookR tys, bty, fullCall ammonitelaw12_CheckinComments.its (ammonitelaw12_CheckinComments.tb K) bids⟩
noncomputable def ammonitelaw12_CheckinComments.ret (K : Nat) : St → Option (resT [.bool]).den := retA (ammonitelaw12_CheckinComments.E K) [.bool] [(.tmp 4)]
noncomputable def ammonitelaw12_CheckinComments.C (K : Nat) : CEnv (resT [.bool]).den := ⟨ammonitelaw12_CheckinComments.E K, 74, K, ammonitelaw12_CheckinComments.nm, ammonitelaw12_CheckinComments.ret K, [], fun _ => false, ammonitelaw12_CheckinComments.pre, lookG []⟩
noncomputable def ammonitelaw12_CheckinComments.f (K : Nat) (x : (prodT [.str, (.int .i64)]).den) : Option (resT [.bool]).den := exec ammonitelaw12_CheckinComments.code (ammonitelaw12_CheckinComments.C K) (ammonitelaw12_CheckinComments.ret K) (init [.str, (.int .i64)] x)
theorem ammonitelaw12_CheckinComments.eq (K : Nat) (s0 : (List UInt8)) (date1 : Int) : ammonitelaw12_CheckinComments.f K (s0, date1, ()) =
 ((chks [(decide ((0 : Int) ≤ (if (40 : Int) < (List.length s0 : Int) then (40 : Int) else (List.length s0 : Int)))), (decide ((if (40 : Int) < (List.length s0 : Int) then (40 : Int) else (List.length s0 : Int)) ≤ (List.length s0 : Int)))]
 ((ammonitebook_Within.f K (date1, (0 : Int), (1073741824 : Int), ())).bind fun v_1 =>
 ((checkin_Print.f K (([], ((cutL s0 none (some (if (40 : Int) < (List.length s0 : Int) then (40 : Int) else (List.length s0 : Int)))), (v_1, (([] : (List D56)), (([] : (List (List UInt8))), (([] : (List D42)), (([109, 101] : List UInt8), ()))))))), ())).bind fun v_2 =>
 ((checkin_Read.f K (v_2, ())).bind fun v_3 =>
 ((card_Read.f K (v_2, ())).bind fun v_4 =>
 ((card_One.f K (v_4.1, (67 : Int), ())).bind fun v_5 =>
 (bif v_3.2.1 then
 ((checkin_Same.f K ((v_3.1.1, (v_3.1.2.1, (v_3.1.2.2.1, (v_3.1.2.2.2.1, (v_3.1.2.2.2.2.1, (v_3.1.2.2.2.2.2.1, (v_3.1.2.2.2.2.2.2.1, ()))))))), ([], ((cutL s0 none (some (if (40 : Int) < (List.length s0 : Int) then (40 : Int) else (List.length s0 : Int)))), (v_1, (([] : (List D56)), (([] : (List (List UInt8))), (([] : (List D42)), (([109, 101] : List UInt8), ()))))))), ())).bind fun v_6 =>
 (bif v_6 then
 (bif v_4.2.1 then
 (bif (decide (v_5.2.1 = (1 : Int))) then
 (bif (decide ((List.length v_5.1 : Int) = (1 : Int))) then
 (chks [(decide ((0 : Int) < (List.length v_5.1 : Int)))]
 ((ammoniteref10_Escape.f K ((cutL s0 none (some (if (40 : Int) < (List.length s0 : Int) then (40 : Int) else (List.length s0 : Int)))), ())).bind fun v_7 =>
 (chks [(catOk ([46] : List UInt8) v_7)]
 (bif (decide ((List.getD v_5.1 (Int.toNat (0 : Int)) (DTy.dflt .str)) = (([46] : List UInt8) ++ v_7))) then
 ((ammoniteref10_Kind.f K (v_2, ())).bind fun v_8 =>
 (bif (decide (v_8 = (2 : Int))) then
 ((ammonitelaw12_CheckinRuns.f K (())).bind fun v_9 =>
 (some v_9))
 else
 (some false)))
 else
 (some false)))))
 else
 (some false))
 else
 (some false))
 else
 (some false))
 else
 (some false)))
 else
 (some false)))))))) : Option Bool) := by kernel_rfl
theorem ammonitelaw12_CheckinComments.tbOk (K : Nat) : TbOk Try.prog (ammonitelaw12_CheckinComments.tb K) := by
 intro e he
 simp only [ammonitelaw12_CheckinComments.tb, List.mem_cons, List.not_mem_nil, or_false] at he
 rcases he with rfl | rfl | rfl | rfl | rfl | rfl | rfl | rfl | rfl
 · exact ⟨ammonitebook_Within.ok K, enters_of Try.func23 (by kernel_rfl) rfl⟩
 · exact ⟨checkin_Print.ok K, enters_of Try.func9 (by kernel_rfl) rfl⟩
 · exact ⟨checkin_Read.ok K, enters_of Try.func10 (by kernel_rfl) rfl⟩
 · exact ⟨card_Read.ok K, enters_of Try.func27 (by kernel_rfl) rfl⟩
 · exact ⟨card_One.ok K, enters_of Try.func28 (by kernel_rfl) rfl⟩
 · exact ⟨checkin_Same.ok K, enters_of Try.func26 (by kernel_rfl) rfl⟩
 · exact ⟨ammoniteref10_Escape.ok K, enters_of Try.func17 (by kernel_rfl) rfl⟩
 · exact ⟨ammoniteref10_Kind.ok K, enters_of Try.func29 (by kernel_rfl) rfl⟩
 · exact ⟨ammonitelaw12_CheckinRuns.ok K, enters_of Try.func3 (by kernel_rfl) rfl⟩
theorem ammonitelaw12_CheckinComments.itsOk : ItbOk Try.prog ammonitelaw12_CheckinComments.its := by
 intro e he
 simp only [ammonitelaw12_CheckinComments.its, List.mem_cons, List.not_mem_nil, or_false] at he
theorem ammonitelaw12_CheckinComments.ok (K : Nat) : PureC Try.prog 8 ⟨[.str, (.int .i64)], [.bool], ammonitelaw12_CheckinComments.f K⟩ :=
 fn_sound (itOk _ _) (E := ammonitelaw12_CheckinComments.E K) (full_ok tys_ok ammonitelaw12_CheckinComments.itsOk (ammonitelaw12_CheckinComments.tbOk K) par_ok bld_ok bty_ok) mixed Try.func8 (c := ammonitelaw12_CheckinComments.code) (by kernel_rfl) (by kernel_rfl) (by decide) (by kernel_rfl)
end Go.Proofs.Ytaoadbkoambjbaa.Ab
