import Derived.Test.YtgmjbnglenmlpaaAbt3
import Derived.Test.YtgmjbnglenmlpaaProg
set_option linter.unusedVariables false
set_option linter.unusedSimpArgs false
set_option maxRecDepth 100000
namespace Go.Proofs.Ytgmjbnglenmlpaa.Ab
open Go Go.RowKit Go.Proofs
/-! ### ammonite/hash.Is: function 25 -/
noncomputable def hash_Is.tb (K : Nat) : Tb := [(40, ⟨[.str, (.int .u8)], [(.int .i64)], strings_IndexByte.f K⟩)]
noncomputable def hash_Is.its : Itb := []
noncomputable def hash_Is.code : Code := (Try.f25.body).getD .skip
noncomputable def hash_Is.nm : Nat → NormSpec := lookN [(2, ⟨[(0, (.data .str)), (5, (.data (.int .i64))), (6, (.data (.int .i64)))], [], []⟩)]
noncomputable def hash_Is.pre : Nat → Option NormSpec := lookP []
noncomputable def hash_Is.E (K : Nat) : Env := ⟨lookR tys, bty, fullCall hash_Is.its (hash_Is.tb K) bids⟩
noncomputable def hash_Is.ret (K : Nat) : St → Option (resT [.bool]).den := retA (hash_Is.E K) [.bool] [(.tmp 2)]
noncomputable def hash_Is.C (K : Nat) : CEnv (resT [.bool]).den := ⟨hash_Is.E K, 18, K, hash_Is.nm, hash_Is.ret K, [], fun _ => false, hash_Is.pre, lookG []⟩
noncomputable def hash_Is.f (K : Nat) (x : (prodT [.str]).den) : Option (resT [.bool]).den := exec hash_Is.code (hash_Is.C K) (hash_Is.ret K) (init [.str] x)
noncomputable def hash_Is.m2 (s0 : (List UInt8)) (t5 : Int) (t6 : Int) : St := mkSt [(0, (.d .str (s0 : (List UInt8)))), (5, (.d (.int .i64) (t5 : Int))), (6, (.d (.int .i64) (t6 : Int)))] []
noncomputable def hash_Is.r2 (K : Nat)  (n : Nat) : St → Option Bool := loopAt [.r, .l, .r, .b] hash_Is.code (hash_Is.C K) (hash_Is.ret K) [] n
noncomputable def hash_Is.l2 (K : Nat)  (n : Nat) (s0 : (List UInt8)) (t5 : Int) (t6 : Int) : Option Bool := hash_Is.r2 K n (hash_Is.m2 s0 t5 t6)
theorem hash_Is.eq (K : Nat) (s0 : (List UInt8)) : hash_Is.f K (s0, ()) =
  ((hash_Is.l2 K K s0 (List.length s0 : Int) (0 : Int)) : Option Bool) := by kernel_rfl
theorem hash_Is.l2_zero (K : Nat)  (s0 : (List UInt8)) (t5 : Int) (t6 : Int) : hash_Is.l2 K 0 s0 t5 t6 = none := by kernel_rfl
theorem hash_Is.l2_succ (K : Nat)  (n : Nat) (s0 : (List UInt8)) (t5 : Int) (t6 : Int) : hash_Is.l2 K (n + 1) s0 t5 t6 =
  ((bif (decide (t6 < t5)) then
    (chks [(decide ((0 : Int) ≤ t6)), (decide (t6 < (List.length s0 : Int)))]
     ((strings_IndexByte.f K (([48, 49, 50, 51, 52, 53, 54, 55, 56, 57, 97, 98, 99, 100, 101, 102] : List UInt8), ((List.getD s0 (Int.toNat t6) 0).toNat : Int), ())).bind fun v_1 =>
      (bif (decide (v_1 < (0 : Int))) then
        (some false)
      else
        (hash_Is.l2 K n s0 t5 (IntKind.wrap .i64 (t6 + (1 : Int)))))))
  else
    (some (decide ((List.length s0 : Int) = (40 : Int))))) : Option Bool) := by kernel_rfl
theorem hash_Is.tbOk (K : Nat) : TbOk Try.prog (hash_Is.tb K) := by
  intro e he
  simp only [hash_Is.tb, List.mem_cons, List.not_mem_nil, or_false] at he
  rcases he with rfl
  · exact ⟨strings_IndexByte.ok K, enters_of Try.func40 (by kernel_rfl) rfl⟩

theorem hash_Is.itsOk : ItbOk Try.prog hash_Is.its := by
  intro e he
  simp only [hash_Is.its, List.mem_cons, List.not_mem_nil, or_false] at he

theorem hash_Is.ok (K : Nat) : PureC Try.prog 25 ⟨[.str], [.bool], hash_Is.f K⟩ :=
  fn_sound (itOk _ _) (E := hash_Is.E K) (full_ok tys_ok hash_Is.itsOk (hash_Is.tbOk K) par_ok bld_ok bty_ok) mixed Try.func25 (c := hash_Is.code) (by kernel_rfl) (by kernel_rfl) (by decide) (by kernel_rfl)
/-! ### ammonite/ammoniteref1.Is: function 26 -/
noncomputable def ammoniteref1_Is.tb (K : Nat) : Tb := []
noncomputable def ammoniteref1_Is.its : Itb := []
noncomputable def ammoniteref1_Is.code : Code := (Try.f26.body).getD .skip
noncomputable def ammoniteref1_Is.nm : Nat → NormSpec := lookN [(2, ⟨[(0, (.data .str)), (3, (.data (.int .i64)))], [], []⟩)]
noncomputable def ammoniteref1_Is.pre : Nat → Option NormSpec := lookP []
noncomputable def ammoniteref1_Is.E (K : Nat) : Env := ⟨lookR tys, bty, fullCall ammoniteref1_Is.its (ammoniteref1_Is.tb K) bids⟩
noncomputable def ammoniteref1_Is.ret (K : Nat) : St → Option (resT [.bool]).den := retA (ammoniteref1_Is.E K) [.bool] [(.tmp 2)]
noncomputable def ammoniteref1_Is.C (K : Nat) : CEnv (resT [.bool]).den := ⟨ammoniteref1_Is.E K, 35, K, ammoniteref1_Is.nm, ammoniteref1_Is.ret K, [], fun _ => false, ammoniteref1_Is.pre, lookG []⟩
noncomputable def ammoniteref1_Is.f (K : Nat) (x : (prodT [.str]).den) : Option (resT [.bool]).den := exec ammoniteref1_Is.code (ammoniteref1_Is.C K) (ammoniteref1_Is.ret K) (init [.str] x)
noncomputable def ammoniteref1_Is.m2 (s0 : (List UInt8)) (i3 : Int) : St := mkSt [(0, (.d .str (s0 : (List UInt8)))), (3, (.d (.int .i64) (i3 : Int)))] []
noncomputable def ammoniteref1_Is.r2 (K : Nat)  (n : Nat) : St → Option Bool := loopAt [.r, .l, .r, .b] ammoniteref1_Is.code (ammoniteref1_Is.C K) (ammoniteref1_Is.ret K) [] n
noncomputable def ammoniteref1_Is.l2 (K : Nat)  (n : Nat) (s0 : (List UInt8)) (i3 : Int) : Option Bool := ammoniteref1_Is.r2 K n (ammoniteref1_Is.m2 s0 i3)
theorem ammoniteref1_Is.eq (K : Nat) (s0 : (List UInt8)) : ammoniteref1_Is.f K (s0, ()) =
  ((ammoniteref1_Is.l2 K K s0 (0 : Int)) : Option Bool) := by kernel_rfl
theorem ammoniteref1_Is.l2_zero (K : Nat)  (s0 : (List UInt8)) (i3 : Int) : ammoniteref1_Is.l2 K 0 s0 i3 = none := by kernel_rfl
theorem ammoniteref1_Is.l2_succ (K : Nat)  (n : Nat) (s0 : (List UInt8)) (i3 : Int) : ammoniteref1_Is.l2 K (n + 1) s0 i3 =
  ((bif (decide (i3 < (List.length s0 : Int))) then
    (chks [(decide ((0 : Int) ≤ i3)), (decide (i3 < (List.length s0 : Int)))]
     (bif (decide (((List.getD s0 (Int.toNat i3) 0).toNat : Int) < (48 : Int))) then
       (chks [(decide ((0 : Int) ≤ i3)), (decide (i3 < (List.length s0 : Int)))]
        (bif (decide (((List.getD s0 (Int.toNat i3) 0).toNat : Int) < (97 : Int))) then
          (some false)
        else
          (chks [(decide ((0 : Int) ≤ i3)), (decide (i3 < (List.length s0 : Int)))]
           (bif (decide ((102 : Int) < ((List.getD s0 (Int.toNat i3) 0).toNat : Int))) then
             (some false)
           else
             (ammoniteref1_Is.l2 K n s0 (IntKind.wrap .i64 (i3 + (1 : Int))))))))
     else
       (chks [(decide ((0 : Int) ≤ i3)), (decide (i3 < (List.length s0 : Int)))]
        (bif (decide ((57 : Int) < ((List.getD s0 (Int.toNat i3) 0).toNat : Int))) then
          (chks [(decide ((0 : Int) ≤ i3)), (decide (i3 < (List.length s0 : Int)))]
           (bif (decide (((List.getD s0 (Int.toNat i3) 0).toNat : Int) < (97 : Int))) then
             (some false)
           else
             (chks [(decide ((0 : Int) ≤ i3)), (decide (i3 < (List.length s0 : Int)))]
              (bif (decide ((102 : Int) < ((List.getD s0 (Int.toNat i3) 0).toNat : Int))) then
                (some false)
              else
                (ammoniteref1_Is.l2 K n s0 (IntKind.wrap .i64 (i3 + (1 : Int))))))))
        else
          (ammoniteref1_Is.l2 K n s0 (IntKind.wrap .i64 (i3 + (1 : Int))))))))
  else
    (some (decide ((List.length s0 : Int) = (40 : Int))))) : Option Bool) := by kernel_rfl
theorem ammoniteref1_Is.tbOk (K : Nat) : TbOk Try.prog (ammoniteref1_Is.tb K) := by
  intro e he
  simp only [ammoniteref1_Is.tb, List.mem_cons, List.not_mem_nil, or_false] at he

theorem ammoniteref1_Is.itsOk : ItbOk Try.prog ammoniteref1_Is.its := by
  intro e he
  simp only [ammoniteref1_Is.its, List.mem_cons, List.not_mem_nil, or_false] at he

theorem ammoniteref1_Is.ok (K : Nat) : PureC Try.prog 26 ⟨[.str], [.bool], ammoniteref1_Is.f K⟩ :=
  fn_sound (itOk _ _) (E := ammoniteref1_Is.E K) (full_ok tys_ok ammoniteref1_Is.itsOk (ammoniteref1_Is.tbOk K) par_ok bld_ok bty_ok) mixed Try.func26 (c := ammoniteref1_Is.code) (by kernel_rfl) (by kernel_rfl) (by decide) (by kernel_rfl)
/-! ### ammonite/cluster.Right: function 10 -/
noncomputable def cluster_Right.tb (K : Nat) : Tb := [(25, ⟨[.str], [.bool], hash_Is.f K⟩)]
noncomputable def cluster_Right.its : Itb := []
noncomputable def cluster_Right.code : Code := (Try.f10.body).getD .skip
noncomputable def cluster_Right.nm : Nat → NormSpec := lookN [(2, ⟨[(0, (.data (.slice .str))), (5, (.data (.slice .str))), (6, (.data (.int .i64))), (7, (.data (.int .i64)))], [], []⟩)]
noncomputable def cluster_Right.pre : Nat → Option NormSpec := lookP []
noncomputable def cluster_Right.E (K : Nat) : Env := ⟨lookR tys, bty, fullCall cluster_Right.its (cluster_Right.tb K) bids⟩
noncomputable def cluster_Right.ret (K : Nat) : St → Option (resT [.bool]).den := retA (cluster_Right.E K) [.bool] [(.tmp 2)]
noncomputable def cluster_Right.C (K : Nat) : CEnv (resT [.bool]).den := ⟨cluster_Right.E K, 37, K, cluster_Right.nm, cluster_Right.ret K, [], fun _ => false, cluster_Right.pre, lookG []⟩
noncomputable def cluster_Right.f (K : Nat) (x : (prodT [(.slice .str)]).den) : Option (resT [.bool]).den := exec cluster_Right.code (cluster_Right.C K) (cluster_Right.ret K) (init [(.slice .str)] x)
noncomputable def cluster_Right.m2 (names0 : (List (List UInt8))) (t5 : (List (List UInt8))) (t6 : Int) (t7 : Int) : St := mkSt [(0, (.d (.slice .str) (names0 : (List (List UInt8))))), (5, (.d (.slice .str) (t5 : (List (List UInt8))))), (6, (.d (.int .i64) (t6 : Int))), (7, (.d (.int .i64) (t7 : Int)))] []
noncomputable def cluster_Right.r2 (K : Nat)  (n : Nat) : St → Option Bool := loopAt [.r, .l, .r, .b] cluster_Right.code (cluster_Right.C K) (cluster_Right.ret K) [] n
noncomputable def cluster_Right.l2 (K : Nat)  (n : Nat) (names0 : (List (List UInt8))) (t5 : (List (List UInt8))) (t6 : Int) (t7 : Int) : Option Bool := cluster_Right.r2 K n (cluster_Right.m2 names0 t5 t6 t7)
theorem cluster_Right.eq (K : Nat) (names0 : (List (List UInt8))) : cluster_Right.f K (names0, ()) =
  ((cluster_Right.l2 K K names0 names0 (List.length names0 : Int) (0 : Int)) : Option Bool) := by kernel_rfl
theorem cluster_Right.l2_zero (K : Nat)  (names0 : (List (List UInt8))) (t5 : (List (List UInt8))) (t6 : Int) (t7 : Int) : cluster_Right.l2 K 0 names0 t5 t6 t7 = none := by kernel_rfl
theorem cluster_Right.l2_succ (K : Nat)  (n : Nat) (names0 : (List (List UInt8))) (t5 : (List (List UInt8))) (t6 : Int) (t7 : Int) : cluster_Right.l2 K (n + 1) names0 t5 t6 t7 =
  ((bif (decide (t7 < t6)) then
    (chks [(decide ((0 : Int) ≤ t7)), (decide (t7 < (List.length t5 : Int)))]
     ((hash_Is.f K ((List.getD t5 (Int.toNat t7) (DTy.dflt .str)), ())).bind fun v_1 =>
      (bif (!v_1) then
        (some false)
      else
        (bif (decide ((0 : Int) < t7)) then
          (chks [(decide ((0 : Int) ≤ (IntKind.wrap .i64 (t7 - (1 : Int))))), (decide ((IntKind.wrap .i64 (t7 - (1 : Int))) < (List.length names0 : Int)))]
           (bif (!(Op.bytesLess (List.getD names0 (Int.toNat (IntKind.wrap .i64 (t7 - (1 : Int)))) (DTy.dflt .str)) (List.getD t5 (Int.toNat t7) (DTy.dflt .str)))) then
             (some false)
           else
             (cluster_Right.l2 K n names0 t5 t6 (IntKind.wrap .i64 (t7 + (1 : Int))))))
        else
          (cluster_Right.l2 K n names0 t5 t6 (IntKind.wrap .i64 (t7 + (1 : Int))))))))
  else
    (bif (decide ((1 : Int) ≤ (List.length names0 : Int))) then
      (some (decide ((List.length names0 : Int) ≤ (12 : Int))))
    else
      (some false))) : Option Bool) := by kernel_rfl
theorem cluster_Right.tbOk (K : Nat) : TbOk Try.prog (cluster_Right.tb K) := by
  intro e he
  simp only [cluster_Right.tb, List.mem_cons, List.not_mem_nil, or_false] at he
  rcases he with rfl
  · exact ⟨hash_Is.ok K, enters_of Try.func25 (by kernel_rfl) rfl⟩

theorem cluster_Right.itsOk : ItbOk Try.prog cluster_Right.its := by
  intro e he
  simp only [cluster_Right.its, List.mem_cons, List.not_mem_nil, or_false] at he

theorem cluster_Right.ok (K : Nat) : PureC Try.prog 10 ⟨[(.slice .str)], [.bool], cluster_Right.f K⟩ :=
  fn_sound (itOk _ _) (E := cluster_Right.E K) (full_ok tys_ok cluster_Right.itsOk (cluster_Right.tbOk K) par_ok bld_ok bty_ok) mixed Try.func10 (c := cluster_Right.code) (by kernel_rfl) (by kernel_rfl) (by decide) (by kernel_rfl)
/-! ### ammonite/cluster.Print: function 9 -/
noncomputable def cluster_Print.tb (K : Nat) : Tb := [(10, ⟨[(.slice .str)], [.bool], cluster_Right.f K⟩), (24, ⟨[(.slice T55)], [.str], card_Print.f K⟩)]
noncomputable def cluster_Print.its : Itb := []
noncomputable def cluster_Print.code : Code := (Try.f9.body).getD .skip
noncomputable def cluster_Print.nm : Nat → NormSpec := lookN [(5, ⟨[(3, (.vec T55)), (9, (.data (.slice .str))), (10, (.data (.int .i64))), (11, (.data (.int .i64)))], [], []⟩)]
noncomputable def cluster_Print.pre : Nat → Option NormSpec := lookP []
noncomputable def cluster_Print.E (K : Nat) : Env := ⟨lookR tys, bty, fullCall cluster_Print.its (cluster_Print.tb K) bids⟩
noncomputable def cluster_Print.ret (K : Nat) : St → Option (resT [.str]).den := retA (cluster_Print.E K) [.str] [(.tmp 2)]
noncomputable def cluster_Print.C (K : Nat) : CEnv (resT [.str]).den := ⟨cluster_Print.E K, 24, K, cluster_Print.nm, cluster_Print.ret K, [], fun _ => false, cluster_Print.pre, lookG []⟩
noncomputable def cluster_Print.f (K : Nat) (x : (prodT [(.slice .str)]).den) : Option (resT [.str]).den := exec cluster_Print.code (cluster_Print.C K) (cluster_Print.ret K) (init [(.slice .str)] x)
noncomputable def cluster_Print.m5 (l3 : (List D55)) (t9 : (List (List UInt8))) (t10 : Int) (t11 : Int) : St := mkSt [(3, (.vs 3 0 T55 (l3 : List D55))), (9, (.d (.slice .str) (t9 : (List (List UInt8))))), (10, (.d (.int .i64) (t10 : Int))), (11, (.d (.int .i64) (t11 : Int)))] [(3, (.vec T55 0))]
noncomputable def cluster_Print.r5 (K : Nat)  (n : Nat) : St → Option (List UInt8) := loopAt [.r, .r, .r, .l, .r, .b] cluster_Print.code (cluster_Print.C K) (cluster_Print.ret K) [] n
noncomputable def cluster_Print.l5 (K : Nat)  (n : Nat) (l3 : (List D55)) (t9 : (List (List UInt8))) (t10 : Int) (t11 : Int) : Option (List UInt8) := cluster_Print.r5 K n (cluster_Print.m5 l3 t9 t10 t11)
theorem cluster_Print.eq (K : Nat) (names0 : (List (List UInt8))) : cluster_Print.f K (names0, ()) =
  (((cluster_Right.f K (names0, ())).bind fun v_1 =>
   (bif (!v_1) then
     (some ([] : List UInt8))
   else
     (cluster_Print.l5 K K ([] : (List D55)) names0 (List.length names0 : Int) (0 : Int)))) : Option (List UInt8)) := by kernel_rfl
theorem cluster_Print.l5_zero (K : Nat)  (l3 : (List D55)) (t9 : (List (List UInt8))) (t10 : Int) (t11 : Int) : cluster_Print.l5 K 0 l3 t9 t10 t11 = none := by kernel_rfl
theorem cluster_Print.l5_succ (K : Nat)  (n : Nat) (l3 : (List D55)) (t9 : (List (List UInt8))) (t10 : Int) (t11 : Int) : cluster_Print.l5 K (n + 1) l3 t9 t10 t11 =
  ((bif (decide (t11 < t10)) then
    (chks [(decide ((0 : Int) ≤ t11)), (decide (t11 < (List.length t9 : Int)))]
     (chks [(growOk (List.length l3) (List.length ([((77 : Int), (([(List.getD t9 (Int.toNat t11) (DTy.dflt .str))] : List (List UInt8)), ()))] : List D55)) 32)]
      (cluster_Print.l5 K n (l3 ++ ([((77 : Int), (([(List.getD t9 (Int.toNat t11) (DTy.dflt .str))] : List (List UInt8)), ()))] : List D55)) t9 t10 (IntKind.wrap .i64 (t11 + (1 : Int))))))
  else
    ((card_Print.f K (l3, ())).bind fun v_1 =>
     (some v_1))) : Option (List UInt8)) := by kernel_rfl
theorem cluster_Print.tbOk (K : Nat) : TbOk Try.prog (cluster_Print.tb K) := by
  intro e he
  simp only [cluster_Print.tb, List.mem_cons, List.not_mem_nil, or_false] at he
  rcases he with rfl | rfl
  · exact ⟨cluster_Right.ok K, enters_of Try.func10 (by kernel_rfl) rfl⟩
  · exact ⟨card_Print.ok K, enters_of Try.func24 (by kernel_rfl) rfl⟩

theorem cluster_Print.itsOk : ItbOk Try.prog cluster_Print.its := by
  intro e he
  simp only [cluster_Print.its, List.mem_cons, List.not_mem_nil, or_false] at he

theorem cluster_Print.ok (K : Nat) : PureC Try.prog 9 ⟨[(.slice .str)], [.str], cluster_Print.f K⟩ :=
  fn_sound (itOk _ _) (E := cluster_Print.E K) (full_ok tys_ok cluster_Print.itsOk (cluster_Print.tbOk K) par_ok bld_ok bty_ok) mixed Try.func9 (c := cluster_Print.code) (by kernel_rfl) (by kernel_rfl) (by decide) (by kernel_rfl)
/-! ### ammonite/cluster.Read: function 8 -/
noncomputable def cluster_Read.tb (K : Nat) : Tb := [(22, ⟨[.str], [(.slice T55), .bool], card_Read.f K⟩), (9, ⟨[(.slice .str)], [.str], cluster_Print.f K⟩)]
noncomputable def cluster_Read.its : Itb := [(23, ⟨[(.slice T55), (.int .u8)], (.prod (.int .i64) (.prod (.slice .str) .unit)), card_Of.L⟩)]
noncomputable def cluster_Read.code : Code := (Try.f8.body).getD .skip
noncomputable def cluster_Read.nm : Nat → NormSpec := lookN [(4, ⟨[(0, (.data .str)), (2, (.vec .str)), (3, (.data .bool)), (6, .raw)], [(6, [(.vec .str)])], []⟩)]
noncomputable def cluster_Read.pre : Nat → Option NormSpec := lookP []
noncomputable def cluster_Read.E (K : Nat) : Env := ⟨lookR tys, bty, fullCall cluster_Read.its (cluster_Read.tb K) bids⟩
noncomputable def cluster_Read.ret (K : Nat) : St → Option (resT [(.slice .str), .bool]).den := retA (cluster_Read.E K) [(.slice .str), .bool] [(.tmp 2), (.tmp 3)]
noncomputable def cluster_Read.C (K : Nat) : CEnv (resT [(.slice .str), .bool]).den := ⟨cluster_Read.E K, 30, K, cluster_Read.nm, cluster_Read.ret K, [], fun _ => false, cluster_Read.pre, lookG []⟩
noncomputable def cluster_Read.f (K : Nat) (x : (prodT [.str]).den) : Option (resT [(.slice .str), .bool]).den := exec cluster_Read.code (cluster_Read.C K) (cluster_Read.ret K) (init [.str] x)
noncomputable def cluster_Read.m4 (s0 : (List UInt8)) (t2 : (List (List UInt8))) (t3 : Bool) (bout6_0 : (List (List UInt8))) : St := mkSt [(0, (.d .str (s0 : (List UInt8)))), (2, (.vs 2 0 .str (t2 : List (List UInt8)))), (3, (.d .bool (t3 : Bool))), (6, (.ptr 6 0))] [(2, (.vec .str 0)), (6, (.box [(.vs 10600 0 .str (bout6_0 : List (List UInt8)))])), (10600, (.vec .str 0))]
noncomputable def cluster_Read.r4 (K : Nat)  (l : List D55) : St → Option ((List (List UInt8)) × Bool × Unit) := rangeAt [.r, .r, .r, .l, .r, .b] cluster_Read.code (cluster_Read.C K) (cluster_Read.ret K) [] (.prod (.int .i64) (.prod (.slice .str) .unit)) l
noncomputable def cluster_Read.i4 (K : Nat)  (l : List D55) (s0 : (List UInt8)) (t2 : (List (List UInt8))) (t3 : Bool) (bout6_0 : (List (List UInt8))) : Option ((List (List UInt8)) × Bool × Unit) := cluster_Read.r4 K l (cluster_Read.m4 s0 t2 t3 bout6_0)
theorem cluster_Read.eq (K : Nat) (s0 : (List UInt8)) : cluster_Read.f K (s0, ()) =
  (((card_Read.f K (s0, ())).bind fun v_1 =>
   ((card_Of.L (v_1.1, (77 : Int), ())).bind fun v_2 =>
    (cluster_Read.i4 K v_2 s0 ([] : (List (List UInt8))) false ([] : (List (List UInt8)))))) : Option ((List (List UInt8)) × Bool × Unit)) := by kernel_rfl
theorem cluster_Read.i4_nil (K : Nat)  (s0 : (List UInt8)) (t2 : (List (List UInt8))) (t3 : Bool) (bout6_0 : (List (List UInt8))) : cluster_Read.i4 K [] s0 t2 t3 bout6_0 =
  ((bif (decide (s0 = ([] : List UInt8))) then
    (some (([] : (List (List UInt8))), false, ()))
  else
    ((cluster_Print.f K (bout6_0, ())).bind fun v_1 =>
     (bif (!(decide (v_1 = s0))) then
       (some (([] : (List (List UInt8))), false, ()))
     else
       (some (bout6_0, true, ()))))) : Option ((List (List UInt8)) × Bool × Unit)) := by kernel_rfl
theorem cluster_Read.i4_cons (K : Nat)  (x4 : D55) (l : List D55) (s0 : (List UInt8)) (t2 : (List (List UInt8))) (t3 : Bool) (bout6_0 : (List (List UInt8))) : cluster_Read.i4 K (x4 :: l) s0 t2 t3 bout6_0 =
  ((chks [(growOk (List.length bout6_0) (List.length x4.2.1) 16)]
   (cluster_Read.i4 K l s0 t2 t3 (bout6_0 ++ x4.2.1))) : Option ((List (List UInt8)) × Bool × Unit)) := by kernel_rfl
theorem cluster_Read.tbOk (K : Nat) : TbOk Try.prog (cluster_Read.tb K) := by
  intro e he
  simp only [cluster_Read.tb, List.mem_cons, List.not_mem_nil, or_false] at he
  rcases he with rfl | rfl
  · exact ⟨card_Read.ok K, enters_of Try.func22 (by kernel_rfl) rfl⟩
  · exact ⟨cluster_Print.ok K, enters_of Try.func9 (by kernel_rfl) rfl⟩

theorem cluster_Read.itsOk : ItbOk Try.prog cluster_Read.its := by
  intro e he
  simp only [cluster_Read.its, List.mem_cons, List.not_mem_nil, or_false] at he
  rcases he with rfl
  · exact ⟨card_Of.itc, enters_of Try.func23 (by kernel_rfl) rfl⟩

theorem cluster_Read.ok (K : Nat) : PureC Try.prog 8 ⟨[.str], [(.slice .str), .bool], cluster_Read.f K⟩ :=
  fn_sound (itOk _ _) (E := cluster_Read.E K) (full_ok tys_ok cluster_Read.itsOk (cluster_Read.tbOk K) par_ok bld_ok bty_ok) mixed Try.func8 (c := cluster_Read.code) (by kernel_rfl) (by kernel_rfl) (by decide) (by kernel_rfl)
/-! ### ammonite/ammoniteref10.RightCluster: function 12 -/
noncomputable def ammoniteref10_RightCluster.tb (K : Nat) : Tb := [(26, ⟨[.str], [.bool], ammoniteref1_Is.f K⟩)]
noncomputable def ammoniteref10_RightCluster.its : Itb := []
noncomputable def ammoniteref10_RightCluster.code : Code := (Try.f12.body).getD .skip
noncomputable def ammoniteref10_RightCluster.nm : Nat → NormSpec := lookN [(2, ⟨[(0, (.data (.slice .str))), (5, (.data (.slice .str))), (6, (.data (.int .i64))), (7, (.data (.int .i64)))], [], []⟩)]
noncomputable def ammoniteref10_RightCluster.pre : Nat → Option NormSpec := lookP []
noncomputable def ammoniteref10_RightCluster.E (K : Nat) : Env := ⟨lookR tys, bty, fullCall ammoniteref10_RightCluster.its (ammoniteref10_RightCluster.tb K) bids⟩
noncomputable def ammoniteref10_RightCluster.ret (K : Nat) : St → Option (resT [.bool]).den := retA (ammoniteref10_RightCluster.E K) [.bool] [(.tmp 2)]
noncomputable def ammoniteref10_RightCluster.C (K : Nat) : CEnv (resT [.bool]).den := ⟨ammoniteref10_RightCluster.E K, 37, K, ammoniteref10_RightCluster.nm, ammoniteref10_RightCluster.ret K, [], fun _ => false, ammoniteref10_RightCluster.pre, lookG []⟩
noncomputable def ammoniteref10_RightCluster.f (K : Nat) (x : (prodT [(.slice .str)]).den) : Option (resT [.bool]).den := exec ammoniteref10_RightCluster.code (ammoniteref10_RightCluster.C K) (ammoniteref10_RightCluster.ret K) (init [(.slice .str)] x)
noncomputable def ammoniteref10_RightCluster.m2 (l0 : (List (List UInt8))) (t5 : (List (List UInt8))) (t6 : Int) (t7 : Int) : St := mkSt [(0, (.d (.slice .str) (l0 : (List (List UInt8))))), (5, (.d (.slice .str) (t5 : (List (List UInt8))))), (6, (.d (.int .i64) (t6 : Int))), (7, (.d (.int .i64) (t7 : Int)))] []
noncomputable def ammoniteref10_RightCluster.r2 (K : Nat)  (n : Nat) : St → Option Bool := loopAt [.r, .l, .r, .b] ammoniteref10_RightCluster.code (ammoniteref10_RightCluster.C K) (ammoniteref10_RightCluster.ret K) [] n
noncomputable def ammoniteref10_RightCluster.l2 (K : Nat)  (n : Nat) (l0 : (List (List UInt8))) (t5 : (List (List UInt8))) (t6 : Int) (t7 : Int) : Option Bool := ammoniteref10_RightCluster.r2 K n (ammoniteref10_RightCluster.m2 l0 t5 t6 t7)
theorem ammoniteref10_RightCluster.eq (K : Nat) (l0 : (List (List UInt8))) : ammoniteref10_RightCluster.f K (l0, ()) =
  ((ammoniteref10_RightCluster.l2 K K l0 l0 (List.length l0 : Int) (0 : Int)) : Option Bool) := by kernel_rfl
theorem ammoniteref10_RightCluster.l2_zero (K : Nat)  (l0 : (List (List UInt8))) (t5 : (List (List UInt8))) (t6 : Int) (t7 : Int) : ammoniteref10_RightCluster.l2 K 0 l0 t5 t6 t7 = none := by kernel_rfl
theorem ammoniteref10_RightCluster.l2_succ (K : Nat)  (n : Nat) (l0 : (List (List UInt8))) (t5 : (List (List UInt8))) (t6 : Int) (t7 : Int) : ammoniteref10_RightCluster.l2 K (n + 1) l0 t5 t6 t7 =
  ((bif (decide (t7 < t6)) then
    (chks [(decide ((0 : Int) ≤ t7)), (decide (t7 < (List.length t5 : Int)))]
     ((ammoniteref1_Is.f K ((List.getD t5 (Int.toNat t7) (DTy.dflt .str)), ())).bind fun v_1 =>
      (bif (!v_1) then
        (some false)
      else
        (bif (decide ((0 : Int) < t7)) then
          (chks [(decide ((0 : Int) ≤ (IntKind.wrap .i64 (t7 - (1 : Int))))), (decide ((IntKind.wrap .i64 (t7 - (1 : Int))) < (List.length l0 : Int)))]
           (bif (!(Op.bytesLess (List.getD l0 (Int.toNat (IntKind.wrap .i64 (t7 - (1 : Int)))) (DTy.dflt .str)) (List.getD t5 (Int.toNat t7) (DTy.dflt .str)))) then
             (some false)
           else
             (ammoniteref10_RightCluster.l2 K n l0 t5 t6 (IntKind.wrap .i64 (t7 + (1 : Int))))))
        else
          (ammoniteref10_RightCluster.l2 K n l0 t5 t6 (IntKind.wrap .i64 (t7 + (1 : Int))))))))
  else
    (bif (decide ((1 : Int) ≤ (List.length l0 : Int))) then
      (some (decide ((List.length l0 : Int) ≤ (12 : Int))))
    else
      (some false))) : Option Bool) := by kernel_rfl
theorem ammoniteref10_RightCluster.tbOk (K : Nat) : TbOk Try.prog (ammoniteref10_RightCluster.tb K) := by
  intro e he
  simp only [ammoniteref10_RightCluster.tb, List.mem_cons, List.not_mem_nil, or_false] at he
  rcases he with rfl
  · exact ⟨ammoniteref1_Is.ok K, enters_of Try.func26 (by kernel_rfl) rfl⟩

theorem ammoniteref10_RightCluster.itsOk : ItbOk Try.prog ammoniteref10_RightCluster.its := by
  intro e he
  simp only [ammoniteref10_RightCluster.its, List.mem_cons, List.not_mem_nil, or_false] at he

theorem ammoniteref10_RightCluster.ok (K : Nat) : PureC Try.prog 12 ⟨[(.slice .str)], [.bool], ammoniteref10_RightCluster.f K⟩ :=
  fn_sound (itOk _ _) (E := ammoniteref10_RightCluster.E K) (full_ok tys_ok ammoniteref10_RightCluster.itsOk (ammoniteref10_RightCluster.tbOk K) par_ok bld_ok bty_ok) mixed Try.func12 (c := ammoniteref10_RightCluster.code) (by kernel_rfl) (by kernel_rfl) (by decide) (by kernel_rfl)
/-! ### ammonite/ammoniteref10.Cluster: function 15 -/
noncomputable def ammoniteref10_Cluster.tb (K : Nat) : Tb := [(29, ⟨[(.slice T55)], [.str], ammoniteref10_Print.f K⟩)]
noncomputable def ammoniteref10_Cluster.its : Itb := []
noncomputable def ammoniteref10_Cluster.code : Code := (Try.f15.body).getD .skip
noncomputable def ammoniteref10_Cluster.nm : Nat → NormSpec := lookN [(3, ⟨[(3, (.vec T55)), (6, (.data (.slice .str))), (7, (.data (.int .i64))), (8, (.data (.int .i64)))], [], []⟩)]
noncomputable def ammoniteref10_Cluster.pre : Nat → Option NormSpec := lookP []
noncomputable def ammoniteref10_Cluster.E (K : Nat) : Env := ⟨lookR tys, bty, fullCall ammoniteref10_Cluster.its (ammoniteref10_Cluster.tb K) bids⟩
noncomputable def ammoniteref10_Cluster.ret (K : Nat) : St → Option (resT [.str]).den := retA (ammoniteref10_Cluster.E K) [.str] [(.tmp 2)]
noncomputable def ammoniteref10_Cluster.C (K : Nat) : CEnv (resT [.str]).den := ⟨ammoniteref10_Cluster.E K, 21, K, ammoniteref10_Cluster.nm, ammoniteref10_Cluster.ret K, [], fun _ => false, ammoniteref10_Cluster.pre, lookG []⟩
noncomputable def ammoniteref10_Cluster.f (K : Nat) (x : (prodT [(.slice .str)]).den) : Option (resT [.str]).den := exec ammoniteref10_Cluster.code (ammoniteref10_Cluster.C K) (ammoniteref10_Cluster.ret K) (init [(.slice .str)] x)
noncomputable def ammoniteref10_Cluster.m3 (out3 : (List D55)) (t6 : (List (List UInt8))) (t7 : Int) (t8 : Int) : St := mkSt [(3, (.vs 3 0 T55 (out3 : List D55))), (6, (.d (.slice .str) (t6 : (List (List UInt8))))), (7, (.d (.int .i64) (t7 : Int))), (8, (.d (.int .i64) (t8 : Int)))] [(3, (.vec T55 0))]
noncomputable def ammoniteref10_Cluster.r3 (K : Nat)  (n : Nat) : St → Option (List UInt8) := loopAt [.r, .r, .l, .r, .b] ammoniteref10_Cluster.code (ammoniteref10_Cluster.C K) (ammoniteref10_Cluster.ret K) [] n
noncomputable def ammoniteref10_Cluster.l3 (K : Nat)  (n : Nat) (out3 : (List D55)) (t6 : (List (List UInt8))) (t7 : Int) (t8 : Int) : Option (List UInt8) := ammoniteref10_Cluster.r3 K n (ammoniteref10_Cluster.m3 out3 t6 t7 t8)
theorem ammoniteref10_Cluster.eq (K : Nat) (l0 : (List (List UInt8))) : ammoniteref10_Cluster.f K (l0, ()) =
  ((ammoniteref10_Cluster.l3 K K ([] : (List D55)) l0 (List.length l0 : Int) (0 : Int)) : Option (List UInt8)) := by kernel_rfl
theorem ammoniteref10_Cluster.l3_zero (K : Nat)  (out3 : (List D55)) (t6 : (List (List UInt8))) (t7 : Int) (t8 : Int) : ammoniteref10_Cluster.l3 K 0 out3 t6 t7 t8 = none := by kernel_rfl
theorem ammoniteref10_Cluster.l3_succ (K : Nat)  (n : Nat) (out3 : (List D55)) (t6 : (List (List UInt8))) (t7 : Int) (t8 : Int) : ammoniteref10_Cluster.l3 K (n + 1) out3 t6 t7 t8 =
  ((bif (decide (t8 < t7)) then
    (chks [(decide ((0 : Int) ≤ t8)), (decide (t8 < (List.length t6 : Int)))]
     (chks [(growOk (List.length out3) (List.length ([((77 : Int), (([(List.getD t6 (Int.toNat t8) (DTy.dflt .str))] : List (List UInt8)), ()))] : List D55)) 32)]
      (ammoniteref10_Cluster.l3 K n (out3 ++ ([((77 : Int), (([(List.getD t6 (Int.toNat t8) (DTy.dflt .str))] : List (List UInt8)), ()))] : List D55)) t6 t7 (IntKind.wrap .i64 (t8 + (1 : Int))))))
  else
    ((ammoniteref10_Print.f K (out3, ())).bind fun v_1 =>
     (some v_1))) : Option (List UInt8)) := by kernel_rfl
theorem ammoniteref10_Cluster.tbOk (K : Nat) : TbOk Try.prog (ammoniteref10_Cluster.tb K) := by
  intro e he
  simp only [ammoniteref10_Cluster.tb, List.mem_cons, List.not_mem_nil, or_false] at he
  rcases he with rfl
  · exact ⟨ammoniteref10_Print.ok K, enters_of Try.func29 (by kernel_rfl) rfl⟩

theorem ammoniteref10_Cluster.itsOk : ItbOk Try.prog ammoniteref10_Cluster.its := by
  intro e he
  simp only [ammoniteref10_Cluster.its, List.mem_cons, List.not_mem_nil, or_false] at he

theorem ammoniteref10_Cluster.ok (K : Nat) : PureC Try.prog 15 ⟨[(.slice .str)], [.str], ammoniteref10_Cluster.f K⟩ :=
  fn_sound (itOk _ _) (E := ammoniteref10_Cluster.E K) (full_ok tys_ok ammoniteref10_Cluster.itsOk (ammoniteref10_Cluster.tbOk K) par_ok bld_ok bty_ok) mixed Try.func15 (c := ammoniteref10_Cluster.code) (by kernel_rfl) (by kernel_rfl) (by decide) (by kernel_rfl)
/-! ### ammonite/ammoniteref10.ReadCluster: function 14 -/
noncomputable def ammoniteref10_ReadCluster.tb (K : Nat) : Tb := [(27, ⟨[.str], [(.slice T55), .bool], ammoniteref10_Cards.f K⟩), (12, ⟨[(.slice .str)], [.bool], ammoniteref10_RightCluster.f K⟩), (15, ⟨[(.slice .str)], [.str], ammoniteref10_Cluster.f K⟩)]
noncomputable def ammoniteref10_ReadCluster.its : Itb := []
noncomputable def ammoniteref10_ReadCluster.code : Code := (Try.f14.body).getD .skip
noncomputable def ammoniteref10_ReadCluster.nm : Nat → NormSpec := lookN [(4, ⟨[(0, (.data .str)), (5, (.data .bool)), (6, (.vec .str)), (14, (.data (.slice T55))), (15, (.data (.int .i64))), (16, (.data (.int .i64)))], [], []⟩)]
noncomputable def ammoniteref10_ReadCluster.pre : Nat → Option NormSpec := lookP []
noncomputable def ammoniteref10_ReadCluster.E (K : Nat) : Env := ⟨lookR tys, bty, fullCall ammoniteref10_ReadCluster.its (ammoniteref10_ReadCluster.tb K) bids⟩
noncomputable def ammoniteref10_ReadCluster.ret (K : Nat) : St → Option (resT [(.slice .str), .bool]).den := retA (ammoniteref10_ReadCluster.E K) [(.slice .str), .bool] [(.tmp 2), (.tmp 3)]
noncomputable def ammoniteref10_ReadCluster.C (K : Nat) : CEnv (resT [(.slice .str), .bool]).den := ⟨ammoniteref10_ReadCluster.E K, 51, K, ammoniteref10_ReadCluster.nm, ammoniteref10_ReadCluster.ret K, [], fun _ => false, ammoniteref10_ReadCluster.pre, lookG []⟩
noncomputable def ammoniteref10_ReadCluster.f (K : Nat) (x : (prodT [.str]).den) : Option (resT [(.slice .str), .bool]).den := exec ammoniteref10_ReadCluster.code (ammoniteref10_ReadCluster.C K) (ammoniteref10_ReadCluster.ret K) (init [.str] x)
noncomputable def ammoniteref10_ReadCluster.m4 (s0 : (List UInt8)) (ok5 : Bool) (out6 : (List (List UInt8))) (t14 : (List D55)) (t15 : Int) (t16 : Int) : St := mkSt [(0, (.d .str (s0 : (List UInt8)))), (5, (.d .bool (ok5 : Bool))), (6, (.vs 6 0 .str (out6 : List (List UInt8)))), (14, (.d (.slice T55) (t14 : (List D55)))), (15, (.d (.int .i64) (t15 : Int))), (16, (.d (.int .i64) (t16 : Int)))] [(6, (.vec .str 0))]
noncomputable def ammoniteref10_ReadCluster.r4 (K : Nat)  (n : Nat) : St → Option ((List (List UInt8)) × Bool × Unit) := loopAt [.r, .r, .r, .l, .r, .b] ammoniteref10_ReadCluster.code (ammoniteref10_ReadCluster.C K) (ammoniteref10_ReadCluster.ret K) [] n
noncomputable def ammoniteref10_ReadCluster.l4 (K : Nat)  (n : Nat) (s0 : (List UInt8)) (ok5 : Bool) (out6 : (List (List UInt8))) (t14 : (List D55)) (t15 : Int) (t16 : Int) : Option ((List (List UInt8)) × Bool × Unit) := ammoniteref10_ReadCluster.r4 K n (ammoniteref10_ReadCluster.m4 s0 ok5 out6 t14 t15 t16)
theorem ammoniteref10_ReadCluster.eq (K : Nat) (s0 : (List UInt8)) : ammoniteref10_ReadCluster.f K (s0, ()) =
  (((ammoniteref10_Cards.f K (s0, ())).bind fun v_1 =>
   (ammoniteref10_ReadCluster.l4 K K s0 v_1.2.1 ([] : (List (List UInt8))) v_1.1 (List.length v_1.1 : Int) (0 : Int))) : Option ((List (List UInt8)) × Bool × Unit)) := by kernel_rfl
theorem ammoniteref10_ReadCluster.l4_zero (K : Nat)  (s0 : (List UInt8)) (ok5 : Bool) (out6 : (List (List UInt8))) (t14 : (List D55)) (t15 : Int) (t16 : Int) : ammoniteref10_ReadCluster.l4 K 0 s0 ok5 out6 t14 t15 t16 = none := by kernel_rfl
theorem ammoniteref10_ReadCluster.l4_succ (K : Nat)  (n : Nat) (s0 : (List UInt8)) (ok5 : Bool) (out6 : (List (List UInt8))) (t14 : (List D55)) (t15 : Int) (t16 : Int) : ammoniteref10_ReadCluster.l4 K (n + 1) s0 ok5 out6 t14 t15 t16 =
  ((bif (decide (t16 < t15)) then
    (chks [(decide ((0 : Int) ≤ t16)), (decide (t16 < (List.length t14 : Int)))]
     (bif (!(decide ((List.getD t14 (Int.toNat t16) (DTy.dflt T55)).1 = (77 : Int)))) then
       (some (([] : (List (List UInt8))), false, ()))
     else
       (bif (!(decide ((List.length (List.getD t14 (Int.toNat t16) (DTy.dflt T55)).2.1 : Int) = (1 : Int)))) then
         (some (([] : (List (List UInt8))), false, ()))
       else
         (chks [(decide ((0 : Int) < (List.length (List.getD t14 (Int.toNat t16) (DTy.dflt T55)).2.1 : Int)))]
          (chks [(growOk (List.length out6) (List.length ([(List.getD (List.getD t14 (Int.toNat t16) (DTy.dflt T55)).2.1 (Int.toNat (0 : Int)) (DTy.dflt .str))] : List (List UInt8))) 16)]
           (ammoniteref10_ReadCluster.l4 K n s0 ok5 (out6 ++ ([(List.getD (List.getD t14 (Int.toNat t16) (DTy.dflt T55)).2.1 (Int.toNat (0 : Int)) (DTy.dflt .str))] : List (List UInt8))) t14 t15 (IntKind.wrap .i64 (t16 + (1 : Int)))))))))
  else
    (bif (!ok5) then
      (some (([] : (List (List UInt8))), false, ()))
    else
      ((ammoniteref10_RightCluster.f K (out6, ())).bind fun v_1 =>
       (bif (!v_1) then
         (some (([] : (List (List UInt8))), false, ()))
       else
         ((ammoniteref10_Cluster.f K (out6, ())).bind fun v_2 =>
          (bif (!(decide (v_2 = s0))) then
            (some (([] : (List (List UInt8))), false, ()))
          else
            (some (out6, true, ())))))))) : Option ((List (List UInt8)) × Bool × Unit)) := by kernel_rfl
theorem ammoniteref10_ReadCluster.tbOk (K : Nat) : TbOk Try.prog (ammoniteref10_ReadCluster.tb K) := by
  intro e he
  simp only [ammoniteref10_ReadCluster.tb, List.mem_cons, List.not_mem_nil, or_false] at he
  rcases he with rfl | rfl | rfl
  · exact ⟨ammoniteref10_Cards.ok K, enters_of Try.func27 (by kernel_rfl) rfl⟩
  · exact ⟨ammoniteref10_RightCluster.ok K, enters_of Try.func12 (by kernel_rfl) rfl⟩
  · exact ⟨ammoniteref10_Cluster.ok K, enters_of Try.func15 (by kernel_rfl) rfl⟩

theorem ammoniteref10_ReadCluster.itsOk : ItbOk Try.prog ammoniteref10_ReadCluster.its := by
  intro e he
  simp only [ammoniteref10_ReadCluster.its, List.mem_cons, List.not_mem_nil, or_false] at he

theorem ammoniteref10_ReadCluster.ok (K : Nat) : PureC Try.prog 14 ⟨[.str], [(.slice .str), .bool], ammoniteref10_ReadCluster.f K⟩ :=
  fn_sound (itOk _ _) (E := ammoniteref10_ReadCluster.E K) (full_ok tys_ok ammoniteref10_ReadCluster.itsOk (ammoniteref10_ReadCluster.tbOk K) par_ok bld_ok bty_ok) mixed Try.func14 (c := ammoniteref10_ReadCluster.code) (by kernel_rfl) (by kernel_rfl) (by decide) (by kernel_rfl)
/-! ### ammonite/ammonitebook.Same[string]: function 16 -/
noncomputable def ammonitebook_Same_string.tb (K : Nat) : Tb := []
noncomputable def ammonitebook_Same_string.its : Itb := []
noncomputable def ammonitebook_Same_string.code : Code := (Try.f16.body).getD .skip
noncomputable def ammonitebook_Same_string.nm : Nat → NormSpec := lookN [(4, ⟨[(0, (.data (.slice .str))), (1, (.data (.slice .str))), (5, (.data (.int .i64)))], [], []⟩)]
noncomputable def ammonitebook_Same_string.pre : Nat → Option NormSpec := lookP []
noncomputable def ammonitebook_Same_string.E (K : Nat) : Env := ⟨lookR tys, bty, fullCall ammonitebook_Same_string.its (ammonitebook_Same_string.tb K) bids⟩
noncomputable def ammonitebook_Same_string.ret (K : Nat) : St → Option (resT [.bool]).den := retA (ammonitebook_Same_string.E K) [.bool] [(.tmp 4)]
noncomputable def ammonitebook_Same_string.C (K : Nat) : CEnv (resT [.bool]).den := ⟨ammonitebook_Same_string.E K, 26, K, ammonitebook_Same_string.nm, ammonitebook_Same_string.ret K, [], fun _ => false, ammonitebook_Same_string.pre, lookG []⟩
noncomputable def ammonitebook_Same_string.f (K : Nat) (x : (prodT [(.slice .str), (.slice .str)]).den) : Option (resT [.bool]).den := exec ammonitebook_Same_string.code (ammonitebook_Same_string.C K) (ammonitebook_Same_string.ret K) (init [(.slice .str), (.slice .str)] x)
noncomputable def ammonitebook_Same_string.m4 (a0 : (List (List UInt8))) (b1 : (List (List UInt8))) (i5 : Int) : St := mkSt [(0, (.d (.slice .str) (a0 : (List (List UInt8))))), (1, (.d (.slice .str) (b1 : (List (List UInt8))))), (5, (.d (.int .i64) (i5 : Int)))] []
noncomputable def ammonitebook_Same_string.r4 (K : Nat)  (n : Nat) : St → Option Bool := loopAt [.r, .r, .l, .r, .b] ammonitebook_Same_string.code (ammonitebook_Same_string.C K) (ammonitebook_Same_string.ret K) [] n
noncomputable def ammonitebook_Same_string.l4 (K : Nat)  (n : Nat) (a0 : (List (List UInt8))) (b1 : (List (List UInt8))) (i5 : Int) : Option Bool := ammonitebook_Same_string.r4 K n (ammonitebook_Same_string.m4 a0 b1 i5)
theorem ammonitebook_Same_string.eq (K : Nat) (a0 : (List (List UInt8))) (b1 : (List (List UInt8))) : ammonitebook_Same_string.f K (a0, b1, ()) =
  ((bif (!(decide ((List.length a0 : Int) = (List.length b1 : Int)))) then
    (some false)
  else
    (ammonitebook_Same_string.l4 K K a0 b1 (0 : Int))) : Option Bool) := by kernel_rfl
theorem ammonitebook_Same_string.l4_zero (K : Nat)  (a0 : (List (List UInt8))) (b1 : (List (List UInt8))) (i5 : Int) : ammonitebook_Same_string.l4 K 0 a0 b1 i5 = none := by kernel_rfl
theorem ammonitebook_Same_string.l4_succ (K : Nat)  (n : Nat) (a0 : (List (List UInt8))) (b1 : (List (List UInt8))) (i5 : Int) : ammonitebook_Same_string.l4 K (n + 1) a0 b1 i5 =
  ((bif (decide (i5 < (List.length a0 : Int))) then
    (chks [(decide ((0 : Int) ≤ i5)), (decide (i5 < (List.length a0 : Int)))]
     (chks [(decide ((0 : Int) ≤ i5)), (decide (i5 < (List.length b1 : Int)))]
      (bif (!(decide ((List.getD a0 (Int.toNat i5) (DTy.dflt .str)) = (List.getD b1 (Int.toNat i5) (DTy.dflt .str))))) then
        (some false)
      else
        (ammonitebook_Same_string.l4 K n a0 b1 (IntKind.wrap .i64 (i5 + (1 : Int)))))))
  else
    (some true)) : Option Bool) := by kernel_rfl
theorem ammonitebook_Same_string.tbOk (K : Nat) : TbOk Try.prog (ammonitebook_Same_string.tb K) := by
  intro e he
  simp only [ammonitebook_Same_string.tb, List.mem_cons, List.not_mem_nil, or_false] at he

theorem ammonitebook_Same_string.itsOk : ItbOk Try.prog ammonitebook_Same_string.its := by
  intro e he
  simp only [ammonitebook_Same_string.its, List.mem_cons, List.not_mem_nil, or_false] at he

theorem ammonitebook_Same_string.ok (K : Nat) : PureC Try.prog 16 ⟨[(.slice .str), (.slice .str)], [.bool], ammonitebook_Same_string.f K⟩ :=
  fn_sound (itOk _ _) (E := ammonitebook_Same_string.E K) (full_ok tys_ok ammonitebook_Same_string.itsOk (ammonitebook_Same_string.tbOk K) par_ok bld_ok bty_ok) mixed Try.func16 (c := ammonitebook_Same_string.code) (by kernel_rfl) (by kernel_rfl) (by decide) (by kernel_rfl)
end Go.Proofs.Ytgmjbnglenmlpaa.Ab
