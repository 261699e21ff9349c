import Derived.Test.YtgmjbnglenmlpaaAbt4
import Derived.Test.YtgmjbnglenmlpaaProg
set_option linter.unusedVariables false
set_option linter.unusedSimpArgs false
set_option maxRecDepth 100000
namespace Go.Proofs.Ytgmjbnglenmlpaa.Ab
open Go Go.RowKit Go.Proofs
/-! ### ammonite/ammonitelaw14.ClusterRuns: function 3 -/
noncomputable def ammonitelaw14_ClusterRuns.tb (K : Nat) : Tb := [(7, ⟨[.str], [.str], ammoniteref1_Sum.f K⟩), (9, ⟨[(.slice .str)], [.str], cluster_Print.f K⟩), (8, ⟨[.str], [(.slice .str), .bool], cluster_Read.f K⟩), (10, ⟨[(.slice .str)], [.bool], cluster_Right.f K⟩)]
noncomputable def ammonitelaw14_ClusterRuns.its : Itb := []
noncomputable def ammonitelaw14_ClusterRuns.code : Code := (Try.f3.body).getD .skip
noncomputable def ammonitelaw14_ClusterRuns.nm : Nat → NormSpec := lookN []
noncomputable def ammonitelaw14_ClusterRuns.pre : Nat → Option NormSpec := lookP []
noncomputable def ammonitelaw14_ClusterRuns.E (K : Nat) : Env := ⟨lookR tys, bty, fullCall ammonitelaw14_ClusterRuns.its (ammonitelaw14_ClusterRuns.tb K) bids⟩
noncomputable def ammonitelaw14_ClusterRuns.ret (K : Nat) : St → Option (resT [.bool]).den := retA (ammonitelaw14_ClusterRuns.E K) [.bool] [(.tmp 0)]
noncomputable def ammonitelaw14_ClusterRuns.C (K : Nat) : CEnv (resT [.bool]).den := ⟨ammonitelaw14_ClusterRuns.E K, 39, K, ammonitelaw14_ClusterRuns.nm, ammonitelaw14_ClusterRuns.ret K, [], fun _ => false, ammonitelaw14_ClusterRuns.pre, lookG []⟩
noncomputable def ammonitelaw14_ClusterRuns.f (K : Nat) (x : (prodT []).den) : Option (resT [.bool]).den := exec ammonitelaw14_ClusterRuns.code (ammonitelaw14_ClusterRuns.C K) (ammonitelaw14_ClusterRuns.ret K) (init [] x)
theorem ammonitelaw14_ClusterRuns.eq (K : Nat)  : ammonitelaw14_ClusterRuns.f K (()) =
  (((ammoniteref1_Sum.f K (([120] : List UInt8), ())).bind fun v_1 =>
   ((cluster_Print.f K (([v_1] : List (List UInt8)), ())).bind fun v_2 =>
    ((cluster_Read.f K (v_2, ())).bind fun v_3 =>
     (bif v_3.2.1 then
       (bif (decide ((List.length v_3.1 : Int) = (1 : Int))) then
         (chks [(decide ((0 : Int) < (List.length v_3.1 : Int)))]
          (bif (decide ((List.getD v_3.1 (Int.toNat (0 : Int)) (DTy.dflt .str)) = v_1)) then
            ((cluster_Print.f K (([] : (List (List UInt8))), ())).bind fun v_4 =>
             (bif (decide (v_4 = ([] : List UInt8))) then
               ((cluster_Right.f K (([([120] : List UInt8)] : List (List UInt8)), ())).bind fun v_5 =>
                (bif (!v_5) then
                  ((cluster_Right.f K (([v_1] : List (List UInt8)), ())).bind fun v_6 =>
                   (some v_6))
                else
                  (some false)))
             else
               (some false)))
          else
            (some false)))
       else
         (some false))
     else
       (some false))))) : Option Bool) := by kernel_rfl
theorem ammonitelaw14_ClusterRuns.tbOk (K : Nat) : TbOk Try.prog (ammonitelaw14_ClusterRuns.tb K) := by
  intro e he
  simp only [ammonitelaw14_ClusterRuns.tb, List.mem_cons, List.not_mem_nil, or_false] at he
  rcases he with rfl | rfl | rfl | rfl
  · exact ⟨ammoniteref1_Sum.ok K, enters_of Try.func7 (by kernel_rfl) rfl⟩
  · exact ⟨cluster_Print.ok K, enters_of Try.func9 (by kernel_rfl) rfl⟩
  · exact ⟨cluster_Read.ok K, enters_of Try.func8 (by kernel_rfl) rfl⟩
  · exact ⟨cluster_Right.ok K, enters_of Try.func10 (by kernel_rfl) rfl⟩

theorem ammonitelaw14_ClusterRuns.itsOk : ItbOk Try.prog ammonitelaw14_ClusterRuns.its := by
  intro e he
  simp only [ammonitelaw14_ClusterRuns.its, List.mem_cons, List.not_mem_nil, or_false] at he

theorem ammonitelaw14_ClusterRuns.ok (K : Nat) : PureC Try.prog 3 ⟨[], [.bool], ammonitelaw14_ClusterRuns.f K⟩ :=
  fn_sound (itOk _ _) (E := ammonitelaw14_ClusterRuns.E K) (full_ok tys_ok ammonitelaw14_ClusterRuns.itsOk (ammonitelaw14_ClusterRuns.tbOk K) par_ok bld_ok bty_ok) mixed Try.func3 (c := ammonitelaw14_ClusterRuns.code) (by kernel_rfl) (by kernel_rfl) (by decide) (by kernel_rfl)
end Go.Proofs.Ytgmjbnglenmlpaa.Ab
