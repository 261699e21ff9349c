import Derived.Test.YtjpbbjcfdeappaaAbE
import Derived.Test.YtjpbbjcfdeappaaProg
set_option linter.unusedVariables false
set_option linter.unusedSimpArgs false
set_option maxRecDepth 100000
namespace Go.Proofs.Ytjpbbjcfdeappaa.Ab
open Go Go.RowKit Go.Proofs
/-- ammonite/card.Card -/
abbrev T61 : DTy := (.prod (.int .u8) (.prod (.slice .str) .unit))
abbrev D61 : Type := (Int × ((List (List UInt8)) × Unit))
/-- ammonite/ammonitekeep.Text -/
abbrev T36 : DTy := (.prod (.int .i64) (.prod (.slice (.int .i64)) .unit))
abbrev D36 : Type := (Int × ((List Int) × Unit))
/-- ammonite/api.TagOp -/
abbrev T25 : DTy := (.prod (.int .u8) (.prod .str (.prod .str (.prod .str .unit))))
abbrev D25 : Type := (Int × ((List UInt8) × ((List UInt8) × ((List UInt8) × Unit))))
/-- ammonite/ammonitekeep.Control -/
abbrev T34 : DTy := (.prod (.int .i64) (.prod (.int .i64) (.prod (.slice (.int .i64)) (.prod (.slice (.int .i64)) .unit))))
abbrev D34 : Type := (Int × (Int × ((List Int) × ((List Int) × Unit))))
/-- ammonite/api.Control -/
abbrev T28 : DTy := (.prod (.int .i64) (.prod (.slice T25) (.prod .str .unit)))
abbrev D28 : Type := (Int × ((List D25) × ((List UInt8) × Unit)))
def tys : List (Nat × TyRow) := [
  (3, ⟨(.int .i64), 1, 8, some (.int .i64), [(.d (.int .i64) (0 : Int))], false⟩),
  (4, ⟨.bool, 1, 1, some .bool, [(.d .bool (false : Bool))], false⟩),
  (5, ⟨(.int .u8), 1, 1, some (.int .u8), [(.d (.int .u8) (0 : Int))], false⟩),
  (9, ⟨.str, 1, 16, some .str, [(.d .str ([] : (List UInt8)))], false⟩),
  (25, ⟨(.struct [(5, 0), (9, 1), (9, 2), (9, 3)]), 4, 56, some T25, [(.d (.int .u8) (0 : Int)), (.d .str ([] : (List UInt8))), (.d .str ([] : (List UInt8))), (.d .str ([] : (List UInt8)))], true⟩),
  (26, ⟨(.slice 25), 1, 24, some (.slice T25), [.nils], false⟩),
  (28, ⟨(.struct [(3, 0), (26, 1), (9, 2)]), 3, 48, some T28, [(.d (.int .i64) (0 : Int)), .nils, (.d .str ([] : (List UInt8)))], false⟩),
  (32, ⟨(.slice 3), 1, 24, some (.slice (.int .i64)), [.nils], false⟩),
  (34, ⟨(.struct [(3, 0), (3, 1), (32, 2), (32, 3)]), 4, 64, some T34, [(.d (.int .i64) (0 : Int)), (.d (.int .i64) (0 : Int)), .nils, .nils], false⟩),
  (36, ⟨(.struct [(3, 0), (32, 1)]), 2, 32, some T36, [(.d (.int .i64) (0 : Int)), .nils], false⟩),
  (42, ⟨(.slice 9), 1, 24, some (.slice .str), [.nils], false⟩),
  (55, ⟨(.slice 5), 1, 24, some (.slice (.int .u8)), [.nils], false⟩),
  (61, ⟨(.struct [(5, 0), (42, 1)]), 2, 32, some T61, [(.d (.int .u8) (0 : Int)), .nils], false⟩),
  (62, ⟨(.slice 61), 1, 24, some (.slice T61), [.nils], false⟩),
  (71, ⟨(.slice 72), 1, 24, some (.slice T61), [.nils], false⟩),
  (72, ⟨(.struct [(5, 0), (42, 1)]), 2, 32, some T61, [(.d (.int .u8) (0 : Int)), .nils], false⟩),
  (93, ⟨(.ptr 95), 1, 8, none, [.nilp], false⟩),
  (95, ⟨(.struct [(93, 0), (55, 1)]), 2, 32, none, [.nilp, .nils], false⟩)]
theorem tys_ok : ∀ e ∈ tys, RowOk Try.prog (lookR tys) e.1 e.2 := by
  intro e he
  simp only [tys, List.mem_cons, List.not_mem_nil, or_false] at he
  rcases he with rfl | rfl | rfl | rfl | rfl | rfl | rfl | rfl | rfl | rfl | rfl | rfl | rfl | rfl | rfl | rfl | rfl | rfl
  all_goals exact ⟨by kernel_rfl, by kernel_rfl, by kernel_rfl, by kernel_rfl⟩
/-! ### ammonite/card.Right: function 49 -/
noncomputable def card_Right.tb (K : Nat) : Tb := [(64, ⟨[.str, .str], [.bool], strings_Contains.f K⟩)]
noncomputable def card_Right.its : Itb := []
noncomputable def card_Right.code : Code := (Try.f49.body).getD .skip
noncomputable def card_Right.nm : Nat → NormSpec := lookN [(2, ⟨[(0, (.data (.slice T61))), (7, (.data (.slice T61))), (8, (.data (.int .i64))), (9, (.data (.int .i64)))], [], []⟩), (7, ⟨[(0, (.data (.slice T61))), (7, (.data (.slice T61))), (8, (.data (.int .i64))), (9, (.data (.int .i64))), (38, (.data (.slice .str))), (39, (.data (.int .i64))), (40, (.data (.int .i64)))], [], []⟩)]
noncomputable def card_Right.pre : Nat → Option NormSpec := lookP []
noncomputable def card_Right.E (K : Nat) : Env := ⟨lookR tys, bty, fullCall card_Right.its (card_Right.tb K) bids⟩
noncomputable def card_Right.ret (K : Nat) : St → Option (resT [.bool]).den := retA (card_Right.E K) [.bool] [(.tmp 2)]
noncomputable def card_Right.C (K : Nat) : CEnv (resT [.bool]).den := ⟨card_Right.E K, 59, K, card_Right.nm, card_Right.ret K, [], fun _ => false, card_Right.pre, lookG []⟩
noncomputable def card_Right.f (K : Nat) (x : (prodT [(.slice T61)]).den) : Option (resT [.bool]).den := exec card_Right.code (card_Right.C K) (card_Right.ret K) (init [(.slice T61)] x)
noncomputable def card_Right.m2 (l0 : (List D61)) (t7 : (List D61)) (t8 : Int) (t9 : Int) : St := mkSt [(0, (.d (.slice T61) (l0 : (List D61)))), (7, (.d (.slice T61) (t7 : (List D61)))), (8, (.d (.int .i64) (t8 : Int))), (9, (.d (.int .i64) (t9 : Int)))] []
noncomputable def card_Right.r2 (K : Nat)  (n : Nat) : St → Option Bool := loopAt [.r, .l, .r, .b] card_Right.code (card_Right.C K) (card_Right.ret K) [] n
noncomputable def card_Right.l2 (K : Nat)  (n : Nat) (l0 : (List D61)) (t7 : (List D61)) (t8 : Int) (t9 : Int) : Option Bool := card_Right.r2 K n (card_Right.m2 l0 t7 t8 t9)
noncomputable def card_Right.m7 (l0 : (List D61)) (t7 : (List D61)) (t8 : Int) (t9 : Int) (t38 : (List (List UInt8))) (t39 : Int) (t40 : Int) : St := mkSt [(0, (.d (.slice T61) (l0 : (List D61)))), (7, (.d (.slice T61) (t7 : (List D61)))), (8, (.d (.int .i64) (t8 : Int))), (9, (.d (.int .i64) (t9 : Int))), (38, (.d (.slice .str) (t38 : (List (List UInt8))))), (39, (.d (.int .i64) (t39 : Int))), (40, (.d (.int .i64) (t40 : Int)))] []
noncomputable def card_Right.r7 (K : Nat) (ρ2 : St → Option Bool) (n : Nat) : St → Option Bool := loopAt [.r, .l, .r, .b, .o, .r, .r, .l, .b, .r, .r, .r, .b] card_Right.code (card_Right.C K) (card_Right.ret K) [ρ2] n
noncomputable def card_Right.l7 (K : Nat) (ρ2 : St → Option Bool) (n : Nat) (l0 : (List D61)) (t7 : (List D61)) (t8 : Int) (t9 : Int) (t38 : (List (List UInt8))) (t39 : Int) (t40 : Int) : Option Bool := card_Right.r7 K ρ2 n (card_Right.m7 l0 t7 t8 t9 t38 t39 t40)
theorem card_Right.eq (K : Nat) (l0 : (List D61)) : card_Right.f K (l0, ()) =
  ((card_Right.l2 K K l0 l0 (List.length l0 : Int) (0 : Int)) : Option Bool) := by kernel_rfl
theorem card_Right.l2_succ (K : Nat)  (n : Nat) (l0 : (List D61)) (t7 : (List D61)) (t8 : Int) (t9 : Int) : card_Right.l2 K (n + 1) l0 t7 t8 t9 =
  ((bif (decide (t9 < t8)) then
    (chks [(decide ((0 : Int) ≤ t9)), (decide (t9 < (List.length t7 : Int)))]
     (bif (decide ((List.getD t7 (Int.toNat t9) (DTy.dflt T61)).1 < (65 : Int))) then
       (some false)
     else
       (bif (decide ((89 : Int) < (List.getD t7 (Int.toNat t9) (DTy.dflt T61)).1)) then
         (some false)
       else
         (bif (decide ((0 : Int) < t9)) then
           (chks [(decide ((0 : Int) ≤ (IntKind.wrap .i64 (t9 - (1 : Int))))), (decide ((IntKind.wrap .i64 (t9 - (1 : Int))) < (List.length l0 : Int)))]
            (bif (decide ((List.getD t7 (Int.toNat t9) (DTy.dflt T61)).1 < (List.getD l0 (Int.toNat (IntKind.wrap .i64 (t9 - (1 : Int)))) (DTy.dflt T61)).1)) then
              (some false)
            else
              (card_Right.l7 K (card_Right.r2 K n) K l0 t7 t8 t9 (List.getD t7 (Int.toNat t9) (DTy.dflt T61)).2.1 (List.length (List.getD t7 (Int.toNat t9) (DTy.dflt T61)).2.1 : Int) (0 : Int))))
         else
           (card_Right.l7 K (card_Right.r2 K n) K l0 t7 t8 t9 (List.getD t7 (Int.toNat t9) (DTy.dflt T61)).2.1 (List.length (List.getD t7 (Int.toNat t9) (DTy.dflt T61)).2.1 : Int) (0 : Int))))))
  else
    (some (decide ((0 : Int) < (List.length l0 : Int))))) : Option Bool) := by kernel_rfl
theorem card_Right.l7_succ (K : Nat) (ρ2 : St → Option Bool) (n : Nat) (l0 : (List D61)) (t7 : (List D61)) (t8 : Int) (t9 : Int) (t38 : (List (List UInt8))) (t39 : Int) (t40 : Int) : card_Right.l7 K ρ2 (n + 1) l0 t7 t8 t9 t38 t39 t40 =
  ((bif (decide (t40 < t39)) then
    (chks [(decide ((0 : Int) ≤ t40)), (decide (t40 < (List.length t38 : Int)))]
     (bif (decide ((List.getD t38 (Int.toNat t40) (DTy.dflt .str)) = ([] : List UInt8))) then
       (some false)
     else
       ((strings_Contains.f K ((List.getD t38 (Int.toNat t40) (DTy.dflt .str)), ([32] : List UInt8), ())).bind fun v_1 =>
        (bif v_1 then
          (some false)
        else
          ((strings_Contains.f K ((List.getD t38 (Int.toNat t40) (DTy.dflt .str)), ([10] : List UInt8), ())).bind fun v_2 =>
           (bif v_2 then
             (some false)
           else
             (card_Right.l7 K ρ2 n l0 t7 t8 t9 t38 t39 (IntKind.wrap .i64 (t40 + (1 : Int))))))))))
  else
    (ρ2 (card_Right.m2 l0 t7 t8 (IntKind.wrap .i64 (t9 + (1 : Int)))))) : Option Bool) := by kernel_rfl
theorem card_Right.tbOk (K : Nat) : TbOk Try.prog (card_Right.tb K) := by
  intro e he
  simp only [card_Right.tb, List.mem_cons, List.not_mem_nil, or_false] at he
  rcases he with rfl
  · exact ⟨strings_Contains.ok K, enters_of Try.func64 (by kernel_rfl) rfl⟩
theorem card_Right.itsOk : ItbOk Try.prog card_Right.its := by
  intro e he
  simp only [card_Right.its, List.mem_cons, List.not_mem_nil, or_false] at he
theorem card_Right.ok (K : Nat) : PureC Try.prog 49 ⟨[(.slice T61)], [.bool], card_Right.f K⟩ :=
  fn_sound (itOk _ _) (E := card_Right.E K) (full_ok tys_ok card_Right.itsOk (card_Right.tbOk K) par_ok bld_ok bty_ok) mixed Try.func49 (c := card_Right.code) (by kernel_rfl) (by kernel_rfl) (by decide) (by kernel_rfl)
/-! ### ammonite/card.sealed: function 52 -/
noncomputable def card_sealed.tb (K : Nat) : Tb := [(67, ⟨[.str], [.str], hash_Sum.f K⟩)]
noncomputable def card_sealed.its : Itb := []
noncomputable def card_sealed.code : Code := (Try.f52.body).getD .skip
noncomputable def card_sealed.nm : Nat → NormSpec := lookN []
noncomputable def card_sealed.pre : Nat → Option NormSpec := lookP []
noncomputable def card_sealed.E (K : Nat) : Env := ⟨lookR tys, bty, fullCall card_sealed.its (card_sealed.tb K) bids⟩
noncomputable def card_sealed.ret (K : Nat) : St → Option (resT [.str]).den := retA (card_sealed.E K) [.str] [(.tmp 2)]
noncomputable def card_sealed.C (K : Nat) : CEnv (resT [.str]).den := ⟨card_sealed.E K, 9, K, card_sealed.nm, card_sealed.ret K, [], fun _ => false, card_sealed.pre, lookG []⟩
noncomputable def card_sealed.f (K : Nat) (x : (prodT [.str]).den) : Option (resT [.str]).den := exec card_sealed.code (card_sealed.C K) (card_sealed.ret K) (init [.str] x)
theorem card_sealed.eq (K : Nat) (s0 : (List UInt8)) : card_sealed.f K (s0, ()) =
  ((chks [(catOk s0 ([90, 32] : List UInt8))]
   ((hash_Sum.f K (s0, ())).bind fun v_1 =>
    (chks [(catOk (s0 ++ ([90, 32] : List UInt8)) v_1)]
     (chks [(catOk ((s0 ++ ([90, 32] : List UInt8)) ++ v_1) ([10] : List UInt8))]
      (some (((s0 ++ ([90, 32] : List UInt8)) ++ v_1) ++ ([10] : List UInt8))))))) : Option (List UInt8)) := by kernel_rfl
theorem card_sealed.tbOk (K : Nat) : TbOk Try.prog (card_sealed.tb K) := by
  intro e he
  simp only [card_sealed.tb, List.mem_cons, List.not_mem_nil, or_false] at he
  rcases he with rfl
  · exact ⟨hash_Sum.ok K, enters_of Try.func67 (by kernel_rfl) rfl⟩
theorem card_sealed.itsOk : ItbOk Try.prog card_sealed.its := by
  intro e he
  simp only [card_sealed.its, List.mem_cons, List.not_mem_nil, or_false] at he
theorem card_sealed.ok (K : Nat) : PureC Try.prog 52 ⟨[.str], [.str], card_sealed.f K⟩ :=
  fn_sound (itOk _ _) (E := card_sealed.E K) (full_ok tys_ok card_sealed.itsOk (card_sealed.tbOk K) par_ok bld_ok bty_ok) mixed Try.func52 (c := card_sealed.code) (by kernel_rfl) (by kernel_rfl) (by decide) (by kernel_rfl)
/-! ### ammonite/card.Print: function 24 -/
noncomputable def card_Print.tb (K : Nat) : Tb := [(49, ⟨[(.slice T61)], [.bool], card_Right.f K⟩), (51, ⟨[(.slice .str), .str], [.str], strings_Join.f K⟩), (52, ⟨[.str], [.str], card_sealed.f K⟩)]
noncomputable def card_Print.its : Itb := []
noncomputable def card_Print.code : Code := (Try.f24.body).getD .skip
noncomputable def card_Print.nm : Nat → NormSpec := lookN [(5, ⟨[(3, .raw), (9, (.data (.slice T61))), (10, (.data (.int .i64))), (11, (.data (.int .i64)))], [], [3]⟩)]
noncomputable def card_Print.pre : Nat → Option NormSpec := lookP []
noncomputable def card_Print.E (K : Nat) : Env := ⟨lookR tys, bty, fullCall card_Print.its (card_Print.tb K) bids⟩
noncomputable def card_Print.ret (K : Nat) : St → Option (resT [.str]).den := retA (card_Print.E K) [.str] [(.tmp 2)]
noncomputable def card_Print.C (K : Nat) : CEnv (resT [.str]).den := ⟨card_Print.E K, 29, K, card_Print.nm, card_Print.ret K, [], fun _ => false, card_Print.pre, lookG []⟩
noncomputable def card_Print.f (K : Nat) (x : (prodT [(.slice T61)]).den) : Option (resT [.str]).den := exec card_Print.code (card_Print.C K) (card_Print.ret K) (init [(.slice T61)] x)
noncomputable def card_Print.m5 (t9 : (List D61)) (t10 : Int) (t11 : Int) (k3 : (List UInt8)) : St := mkSt [(3, (.ptr 3 0)), (9, (.d (.slice T61) (t9 : (List D61)))), (10, (.d (.int .i64) (t10 : Int))), (11, (.d (.int .i64) (t11 : Int)))] [(3, (.bld k3))]
noncomputable def card_Print.r5 (K : Nat)  (n : Nat) : St → Option (List UInt8) := loopAt [.r, .r, .r, .l, .r, .b] card_Print.code (card_Print.C K) (card_Print.ret K) [] n
noncomputable def card_Print.l5 (K : Nat)  (n : Nat) (t9 : (List D61)) (t10 : Int) (t11 : Int) (k3 : (List UInt8)) : Option (List UInt8) := card_Print.r5 K n (card_Print.m5 t9 t10 t11 k3)
theorem card_Print.eq (K : Nat) (l0 : (List D61)) : card_Print.f K (l0, ()) =
  (((card_Right.f K (l0, ())).bind fun v_1 =>
   (bif (!v_1) then
     (some ([] : List UInt8))
   else
     (card_Print.l5 K K l0 (List.length l0 : Int) (0 : Int) ([] : List UInt8)))) : Option (List UInt8)) := by kernel_rfl
theorem card_Print.l5_succ (K : Nat)  (n : Nat) (t9 : (List D61)) (t10 : Int) (t11 : Int) (k3 : (List UInt8)) : card_Print.l5 K (n + 1) t9 t10 t11 k3 =
  ((bif (decide (t11 < t10)) then
    (chks [(decide ((0 : Int) ≤ t11)), (decide (t11 < (List.length t9 : Int)))]
     (chks [(growOk (List.length ([(textOf ([(List.getD t9 (Int.toNat t11) (DTy.dflt T61)).1] : List Int))] : List (List UInt8))) (List.length (List.getD t9 (Int.toNat t11) (DTy.dflt T61)).2.1) 16)]
      ((strings_Join.f K ((([(textOf ([(List.getD t9 (Int.toNat t11) (DTy.dflt T61)).1] : List Int))] : List (List UInt8)) ++ (List.getD t9 (Int.toNat t11) (DTy.dflt T61)).2.1), ([32] : List UInt8), ())).bind fun v_1 =>
       (chks [(catOk v_1 ([10] : List UInt8))]
        (chks [(bldOk k3 (v_1 ++ ([10] : List UInt8)))]
         (card_Print.l5 K n t9 t10 (IntKind.wrap .i64 (t11 + (1 : Int))) (k3 ++ (v_1 ++ ([10] : List UInt8)))))))))
  else
    ((card_sealed.f K (k3, ())).bind fun v_2 =>
     (some v_2))) : Option (List UInt8)) := by kernel_rfl
theorem card_Print.tbOk (K : Nat) : TbOk Try.prog (card_Print.tb K) := by
  intro e he
  simp only [card_Print.tb, List.mem_cons, List.not_mem_nil, or_false] at he
  rcases he with rfl | rfl | rfl
  · exact ⟨card_Right.ok K, enters_of Try.func49 (by kernel_rfl) rfl⟩
  · exact ⟨strings_Join.ok K, enters_of Try.func51 (by kernel_rfl) rfl⟩
  · exact ⟨card_sealed.ok K, enters_of Try.func52 (by kernel_rfl) rfl⟩
theorem card_Print.itsOk : ItbOk Try.prog card_Print.its := by
  intro e he
  simp only [card_Print.its, List.mem_cons, List.not_mem_nil, or_false] at he
theorem card_Print.ok (K : Nat) : PureC Try.prog 24 ⟨[(.slice T61)], [.str], card_Print.f K⟩ :=
  fn_sound (itOk _ _) (E := card_Print.E K) (full_ok tys_ok card_Print.itsOk (card_Print.tbOk K) par_ok bld_ok bty_ok) mixed Try.func24 (c := card_Print.code) (by kernel_rfl) (by kernel_rfl) (by decide) (by kernel_rfl)
/-! ### ammonite/card.Read: function 25 -/
noncomputable def card_Read.tb (K : Nat) : Tb := [(52, ⟨[.str], [.str], card_sealed.f K⟩), (54, ⟨[.str, .str], [.str, .str, .bool], strings_Cut.f K⟩), (24, ⟨[(.slice T61)], [.str], card_Print.f K⟩)]
noncomputable def card_Read.its : Itb := [(55, ⟨[.str], (.prod .str .unit), escape_Words.L⟩)]
noncomputable def card_Read.code : Code := (Try.f25.body).getD .skip
noncomputable def card_Read.nm : Nat → NormSpec := lookN [(5, ⟨[(0, (.data .str)), (2, (.vec T61)), (3, (.data .bool)), (4, (.vec T61)), (5, (.data .str))], [], []⟩), (10, ⟨[(0, (.data .str)), (2, (.vec T61)), (3, (.data .bool)), (4, (.vec T61)), (5, (.data .str)), (7, (.data .str)), (9, .raw)], [(9, [(.data (.int .u8)), (.vec .str)])], []⟩)]
noncomputable def card_Read.pre : Nat → Option NormSpec := lookP []
noncomputable def card_Read.E (K : Nat) : Env := ⟨lookR tys, bty, fullCall card_Read.its (card_Read.tb K) bids⟩
noncomputable def card_Read.ret (K : Nat) : St → Option (resT [(.slice T61), .bool]).den := retA (card_Read.E K) [(.slice T61), .bool] [(.tmp 2), (.tmp 3)]
noncomputable def card_Read.C (K : Nat) : CEnv (resT [(.slice T61), .bool]).den := ⟨card_Read.E K, 73, K, card_Read.nm, card_Read.ret K, [], fun _ => false, card_Read.pre, lookG []⟩
noncomputable def card_Read.f (K : Nat) (x : (prodT [.str]).den) : Option (resT [(.slice T61), .bool]).den := exec card_Read.code (card_Read.C K) (card_Read.ret K) (init [.str] x)
noncomputable def card_Read.m5 (s0 : (List UInt8)) (t2 : (List D61)) (t3 : Bool) (out4 : (List D61)) (rest5 : (List UInt8)) : St := mkSt [(0, (.d .str (s0 : (List UInt8)))), (2, (.vs 2 0 T61 (t2 : List D61))), (3, (.d .bool (t3 : Bool))), (4, (.vs 4 0 T61 (out4 : List D61))), (5, (.d .str (rest5 : (List UInt8))))] [(2, (.vec T61 0)), (4, (.vec T61 0))]
noncomputable def card_Read.r5 (K : Nat)  (n : Nat) : St → Option ((List D61) × Bool × Unit) := loopAt [.r, .s, .r, .r, .r, .r, .l, .b] card_Read.code (card_Read.C K) (card_Read.ret K) [] n
noncomputable def card_Read.l5 (K : Nat)  (n : Nat) (s0 : (List UInt8)) (t2 : (List D61)) (t3 : Bool) (out4 : (List D61)) (rest5 : (List UInt8)) : Option ((List D61) × Bool × Unit) := card_Read.r5 K n (card_Read.m5 s0 t2 t3 out4 rest5)
noncomputable def card_Read.m10 (s0 : (List UInt8)) (t2 : (List D61)) (t3 : Bool) (out4 : (List D61)) (rest5 : (List UInt8)) (behind7 : (List UInt8)) (bc9_0 : Int) (bc9_1 : (List (List UInt8))) : St := mkSt [(0, (.d .str (s0 : (List UInt8)))), (2, (.vs 2 0 T61 (t2 : List D61))), (3, (.d .bool (t3 : Bool))), (4, (.vs 4 0 T61 (out4 : List D61))), (5, (.d .str (rest5 : (List UInt8)))), (7, (.d .str (behind7 : (List UInt8)))), (9, (.ptr 9 0))] [(2, (.vec T61 0)), (4, (.vec T61 0)), (9, (.box [(.d (.int .u8) (bc9_0 : Int)), (.vs 10901 0 .str (bc9_1 : List (List UInt8)))])), (10901, (.vec .str 0))]
noncomputable def card_Read.r10 (K : Nat) (ρ5 : St → Option ((List D61) × Bool × Unit)) (l : List ((List UInt8) × Unit)) : St → Option ((List D61) × Bool × Unit) := rangeAt [.r, .s, .r, .r, .r, .r, .l, .b, .o, .r, .b, .r, .r, .r, .l, .r, .b] card_Read.code (card_Read.C K) (card_Read.ret K) [ρ5] (.prod .str .unit) l
noncomputable def card_Read.i10 (K : Nat) (ρ5 : St → Option ((List D61) × Bool × Unit)) (l : List ((List UInt8) × Unit)) (s0 : (List UInt8)) (t2 : (List D61)) (t3 : Bool) (out4 : (List D61)) (rest5 : (List UInt8)) (behind7 : (List UInt8)) (bc9_0 : Int) (bc9_1 : (List (List UInt8))) : Option ((List D61) × Bool × Unit) := card_Read.r10 K ρ5 l (card_Read.m10 s0 t2 t3 out4 rest5 behind7 bc9_0 bc9_1)
theorem card_Read.eq (K : Nat) (s0 : (List UInt8)) : card_Read.f K (s0, ()) =
  ((bif (decide ((List.length s0 : Int) < (43 : Int))) then
    (some (([] : (List D61)), false, ()))
  else
    (chks [(decide ((0 : Int) ≤ (IntKind.wrap .i64 ((List.length s0 : Int) - (43 : Int))))), (decide ((IntKind.wrap .i64 ((List.length s0 : Int) - (43 : Int))) ≤ (List.length s0 : Int)))]
     ((card_sealed.f K ((cutL s0 none (some (IntKind.wrap .i64 ((List.length s0 : Int) - (43 : Int))))), ())).bind fun v_1 =>
      (bif (!(decide (v_1 = s0))) then
        (some (([] : (List D61)), false, ()))
      else
        (chks [(decide ((0 : Int) ≤ (IntKind.wrap .i64 ((List.length s0 : Int) - (43 : Int))))), (decide ((IntKind.wrap .i64 ((List.length s0 : Int) - (43 : Int))) ≤ (List.length s0 : Int)))]
         (card_Read.l5 K K s0 ([] : (List D61)) false ([] : (List D61)) (cutL s0 none (some (IntKind.wrap .i64 ((List.length s0 : Int) - (43 : Int))))))))))) : Option ((List D61) × Bool × Unit)) := by kernel_rfl
theorem card_Read.l5_succ (K : Nat)  (n : Nat) (s0 : (List UInt8)) (t2 : (List D61)) (t3 : Bool) (out4 : (List D61)) (rest5 : (List UInt8)) : card_Read.l5 K (n + 1) s0 t2 t3 out4 rest5 =
  ((bif (!(decide (rest5 = ([] : List UInt8)))) then
    ((strings_Cut.f K (rest5, ([10] : List UInt8), ())).bind fun v_1 =>
     (bif (!v_1.2.2.1) then
       (bif (!(decide (rest5 = ([] : List UInt8)))) then
         (some (([] : (List D61)), false, ()))
       else
         ((card_Print.f K (out4, ())).bind fun v_2 =>
          (bif (!(decide (v_2 = s0))) then
            (some (([] : (List D61)), false, ()))
          else
            (some (out4, true, ())))))
     else
       ((escape_Words.L (v_1.1, ())).bind fun v_3 =>
        (card_Read.i10 K (card_Read.r5 K n) v_3 s0 t2 t3 out4 rest5 v_1.2.1 0 ([] : (List (List UInt8)))))))
  else
    (bif (!(decide (rest5 = ([] : List UInt8)))) then
      (some (([] : (List D61)), false, ()))
    else
      ((card_Print.f K (out4, ())).bind fun v_4 =>
       (bif (!(decide (v_4 = s0))) then
         (some (([] : (List D61)), false, ()))
       else
         (some (out4, true, ())))))) : Option ((List D61) × Bool × Unit)) := by kernel_rfl
theorem card_Read.i10_nil (K : Nat) (ρ5 : St → Option ((List D61) × Bool × Unit)) (s0 : (List UInt8)) (t2 : (List D61)) (t3 : Bool) (out4 : (List D61)) (rest5 : (List UInt8)) (behind7 : (List UInt8)) (bc9_0 : Int) (bc9_1 : (List (List UInt8))) : card_Read.i10 K ρ5 [] s0 t2 t3 out4 rest5 behind7 bc9_0 bc9_1 =
  ((chks [(growOk (List.length out4) (List.length ([(bc9_0, (bc9_1, ()))] : List D61)) 32)]
   (ρ5 (card_Read.m5 s0 t2 t3 (out4 ++ ([(bc9_0, (bc9_1, ()))] : List D61)) behind7))) : Option ((List D61) × Bool × Unit)) := by kernel_rfl
theorem card_Read.i10_cons (K : Nat) (ρ5 : St → Option ((List D61) × Bool × Unit)) (x10 : ((List UInt8) × Unit)) (l : List ((List UInt8) × Unit)) (s0 : (List UInt8)) (t2 : (List D61)) (t3 : Bool) (out4 : (List D61)) (rest5 : (List UInt8)) (behind7 : (List UInt8)) (bc9_0 : Int) (bc9_1 : (List (List UInt8))) : card_Read.i10 K ρ5 (x10 :: l) s0 t2 t3 out4 rest5 behind7 bc9_0 bc9_1 =
  ((bif (decide ((0 : Int) < bc9_0)) then
    (chks [(growOk (List.length bc9_1) (List.length ([x10.1] : List (List UInt8))) 16)]
     (card_Read.i10 K ρ5 l s0 t2 t3 out4 rest5 behind7 bc9_0 (bc9_1 ++ ([x10.1] : List (List UInt8)))))
  else
    (bif (decide ((List.length x10.1 : Int) = (1 : Int))) then
      (chks [(decide ((0 : Int) < (List.length x10.1 : Int)))]
       (card_Read.i10 K ρ5 l s0 t2 t3 out4 rest5 behind7 ((List.getD x10.1 (Int.toNat (0 : Int)) 0).toNat : Int) bc9_1))
    else
      (bif (!(decide (rest5 = ([] : List UInt8)))) then
        (some (([] : (List D61)), false, ()))
      else
        ((card_Print.f K (out4, ())).bind fun v_1 =>
         (bif (!(decide (v_1 = s0))) then
           (some (([] : (List D61)), false, ()))
         else
           (some (out4, true, ()))))))) : Option ((List D61) × Bool × Unit)) := by kernel_rfl
theorem card_Read.tbOk (K : Nat) : TbOk Try.prog (card_Read.tb K) := by
  intro e he
  simp only [card_Read.tb, List.mem_cons, List.not_mem_nil, or_false] at he
  rcases he with rfl | rfl | rfl
  · exact ⟨card_sealed.ok K, enters_of Try.func52 (by kernel_rfl) rfl⟩
  · exact ⟨strings_Cut.ok K, enters_of Try.func54 (by kernel_rfl) rfl⟩
  · exact ⟨card_Print.ok K, enters_of Try.func24 (by kernel_rfl) rfl⟩
theorem card_Read.itsOk : ItbOk Try.prog card_Read.its := by
  intro e he
  simp only [card_Read.its, List.mem_cons, List.not_mem_nil, or_false] at he
  rcases he with rfl
  · exact ⟨escape_Words.itc, enters_of Try.func55 (by kernel_rfl) rfl⟩
theorem card_Read.ok (K : Nat) : PureC Try.prog 25 ⟨[.str], [(.slice T61), .bool], card_Read.f K⟩ :=
  fn_sound (itOk _ _) (E := card_Read.E K) (full_ok tys_ok card_Read.itsOk (card_Read.tbOk K) par_ok bld_ok bty_ok) mixed Try.func25 (c := card_Read.code) (by kernel_rfl) (by kernel_rfl) (by decide) (by kernel_rfl)
/-! ### ammonite/ammoniteref10.Escape: function 34 -/
noncomputable def ammoniteref10_Escape.tb (K : Nat) : Tb := []
noncomputable def ammoniteref10_Escape.its : Itb := []
noncomputable def ammoniteref10_Escape.code : Code := (Try.f34.body).getD .skip
noncomputable def ammoniteref10_Escape.nm : Nat → NormSpec := lookN [(3, ⟨[(0, (.data .str)), (3, (.data .str)), (4, (.data (.int .i64)))], [], []⟩)]
noncomputable def ammoniteref10_Escape.pre : Nat → Option NormSpec := lookP []
noncomputable def ammoniteref10_Escape.E (K : Nat) : Env := ⟨lookR tys, bty, fullCall ammoniteref10_Escape.its (ammoniteref10_Escape.tb K) bids⟩
noncomputable def ammoniteref10_Escape.ret (K : Nat) : St → Option (resT [.str]).den := retA (ammoniteref10_Escape.E K) [.str] [(.tmp 2)]
noncomputable def ammoniteref10_Escape.C (K : Nat) : CEnv (resT [.str]).den := ⟨ammoniteref10_Escape.E K, 34, K, ammoniteref10_Escape.nm, ammoniteref10_Escape.ret K, [], fun _ => false, ammoniteref10_Escape.pre, lookG []⟩
noncomputable def ammoniteref10_Escape.f (K : Nat) (x : (prodT [.str]).den) : Option (resT [.str]).den := exec ammoniteref10_Escape.code (ammoniteref10_Escape.C K) (ammoniteref10_Escape.ret K) (init [.str] x)
noncomputable def ammoniteref10_Escape.m3 (s0 : (List UInt8)) (out3 : (List UInt8)) (i4 : Int) : St := mkSt [(0, (.d .str (s0 : (List UInt8)))), (3, (.d .str (out3 : (List UInt8)))), (4, (.d (.int .i64) (i4 : Int)))] []
noncomputable def ammoniteref10_Escape.r3 (K : Nat)  (n : Nat) : St → Option (List UInt8) := loopAt [.r, .r, .l, .r, .b] ammoniteref10_Escape.code (ammoniteref10_Escape.C K) (ammoniteref10_Escape.ret K) [] n
noncomputable def ammoniteref10_Escape.l3 (K : Nat)  (n : Nat) (s0 : (List UInt8)) (out3 : (List UInt8)) (i4 : Int) : Option (List UInt8) := ammoniteref10_Escape.r3 K n (ammoniteref10_Escape.m3 s0 out3 i4)
theorem ammoniteref10_Escape.eq (K : Nat) (s0 : (List UInt8)) : ammoniteref10_Escape.f K (s0, ()) =
  ((ammoniteref10_Escape.l3 K K s0 ([] : List UInt8) (0 : Int)) : Option (List UInt8)) := by kernel_rfl
theorem ammoniteref10_Escape.l3_succ (K : Nat)  (n : Nat) (s0 : (List UInt8)) (out3 : (List UInt8)) (i4 : Int) : ammoniteref10_Escape.l3 K (n + 1) s0 out3 i4 =
  ((bif (decide (i4 < (List.length s0 : Int))) then
    (chks [(decide ((0 : Int) ≤ i4)), (decide (i4 < (List.length s0 : Int)))]
     (bif (decide (((List.getD s0 (Int.toNat i4) 0).toNat : Int) = (32 : Int))) then
       (chks [(catOk out3 ([92, 115] : List UInt8))]
        (ammoniteref10_Escape.l3 K n s0 (out3 ++ ([92, 115] : List UInt8)) (IntKind.wrap .i64 (i4 + (1 : Int)))))
     else
       (bif (decide (((List.getD s0 (Int.toNat i4) 0).toNat : Int) = (10 : Int))) then
         (chks [(catOk out3 ([92, 110] : List UInt8))]
          (ammoniteref10_Escape.l3 K n s0 (out3 ++ ([92, 110] : List UInt8)) (IntKind.wrap .i64 (i4 + (1 : Int)))))
       else
         (bif (decide (((List.getD s0 (Int.toNat i4) 0).toNat : Int) = (92 : Int))) then
           (chks [(catOk out3 ([92, 92] : List UInt8))]
            (ammoniteref10_Escape.l3 K n s0 (out3 ++ ([92, 92] : List UInt8)) (IntKind.wrap .i64 (i4 + (1 : Int)))))
         else
           (chks [(decide ((0 : Int) ≤ (IntKind.wrap .i64 (i4 + (1 : Int))))), (decide ((IntKind.wrap .i64 (i4 + (1 : Int))) ≤ (List.length s0 : Int))), (decide ((0 : Int) ≤ i4)), (decide (i4 ≤ (IntKind.wrap .i64 (i4 + (1 : Int)))))]
            (chks [(catOk out3 (cutL s0 (some i4) (some (IntKind.wrap .i64 (i4 + (1 : Int))))))]
             (ammoniteref10_Escape.l3 K n s0 (out3 ++ (cutL s0 (some i4) (some (IntKind.wrap .i64 (i4 + (1 : Int)))))) (IntKind.wrap .i64 (i4 + (1 : Int))))))))))
  else
    (some out3)) : Option (List UInt8)) := by kernel_rfl
theorem ammoniteref10_Escape.tbOk (K : Nat) : TbOk Try.prog (ammoniteref10_Escape.tb K) := by
  intro e he
  simp only [ammoniteref10_Escape.tb, List.mem_cons, List.not_mem_nil, or_false] at he
theorem ammoniteref10_Escape.itsOk : ItbOk Try.prog ammoniteref10_Escape.its := by
  intro e he
  simp only [ammoniteref10_Escape.its, List.mem_cons, List.not_mem_nil, or_false] at he
theorem ammoniteref10_Escape.ok (K : Nat) : PureC Try.prog 34 ⟨[.str], [.str], ammoniteref10_Escape.f K⟩ :=
  fn_sound (itOk _ _) (E := ammoniteref10_Escape.E K) (full_ok tys_ok ammoniteref10_Escape.itsOk (ammoniteref10_Escape.tbOk K) par_ok bld_ok bty_ok) mixed Try.func34 (c := ammoniteref10_Escape.code) (by kernel_rfl) (by kernel_rfl) (by decide) (by kernel_rfl)
/-! ### ammonite/ammoniteref10.Print: function 30 -/
noncomputable def ammoniteref10_Print.tb (K : Nat) : Tb := [(7, ⟨[.str], [.str], ammoniteref1_Sum.f K⟩)]
noncomputable def ammoniteref10_Print.its : Itb := []
noncomputable def ammoniteref10_Print.code : Code := (Try.f30.body).getD .skip
noncomputable def ammoniteref10_Print.nm : Nat → NormSpec := lookN [(3, ⟨[(3, (.data .str)), (8, (.data (.slice T61))), (9, (.data (.int .i64))), (10, (.data (.int .i64)))], [], []⟩), (7, ⟨[(3, (.data .str)), (8, (.data (.slice T61))), (9, (.data (.int .i64))), (10, (.data (.int .i64))), (21, (.data (.slice .str))), (22, (.data (.int .i64))), (23, (.data (.int .i64)))], [], []⟩)]
noncomputable def ammoniteref10_Print.pre : Nat → Option NormSpec := lookP []
noncomputable def ammoniteref10_Print.E (K : Nat) : Env := ⟨lookR tys, bty, fullCall ammoniteref10_Print.its (ammoniteref10_Print.tb K) bids⟩
noncomputable def ammoniteref10_Print.ret (K : Nat) : St → Option (resT [.str]).den := retA (ammoniteref10_Print.E K) [.str] [(.tmp 2)]
noncomputable def ammoniteref10_Print.C (K : Nat) : CEnv (resT [.str]).den := ⟨ammoniteref10_Print.E K, 41, K, ammoniteref10_Print.nm, ammoniteref10_Print.ret K, [], fun _ => false, ammoniteref10_Print.pre, lookG []⟩
noncomputable def ammoniteref10_Print.f (K : Nat) (x : (prodT [(.slice T61)]).den) : Option (resT [.str]).den := exec ammoniteref10_Print.code (ammoniteref10_Print.C K) (ammoniteref10_Print.ret K) (init [(.slice T61)] x)
noncomputable def ammoniteref10_Print.m3 (s3 : (List UInt8)) (t8 : (List D61)) (t9 : Int) (t10 : Int) : St := mkSt [(3, (.d .str (s3 : (List UInt8)))), (8, (.d (.slice T61) (t8 : (List D61)))), (9, (.d (.int .i64) (t9 : Int))), (10, (.d (.int .i64) (t10 : Int)))] []
noncomputable def ammoniteref10_Print.r3 (K : Nat)  (n : Nat) : St → Option (List UInt8) := loopAt [.r, .r, .l, .r, .b] ammoniteref10_Print.code (ammoniteref10_Print.C K) (ammoniteref10_Print.ret K) [] n
noncomputable def ammoniteref10_Print.l3 (K : Nat)  (n : Nat) (s3 : (List UInt8)) (t8 : (List D61)) (t9 : Int) (t10 : Int) : Option (List UInt8) := ammoniteref10_Print.r3 K n (ammoniteref10_Print.m3 s3 t8 t9 t10)
noncomputable def ammoniteref10_Print.m7 (s3 : (List UInt8)) (t8 : (List D61)) (t9 : Int) (t10 : Int) (t21 : (List (List UInt8))) (t22 : Int) (t23 : Int) : St := mkSt [(3, (.d .str (s3 : (List UInt8)))), (8, (.d (.slice T61) (t8 : (List D61)))), (9, (.d (.int .i64) (t9 : Int))), (10, (.d (.int .i64) (t10 : Int))), (21, (.d (.slice .str) (t21 : (List (List UInt8))))), (22, (.d (.int .i64) (t22 : Int))), (23, (.d (.int .i64) (t23 : Int)))] []
noncomputable def ammoniteref10_Print.r7 (K : Nat) (ρ3 : St → Option (List UInt8)) (n : Nat) : St → Option (List UInt8) := loopAt [.r, .r, .l, .r, .b, .o, .r, .r, .l, .b, .r, .r, .l, .r, .b] ammoniteref10_Print.code (ammoniteref10_Print.C K) (ammoniteref10_Print.ret K) [ρ3] n
noncomputable def ammoniteref10_Print.l7 (K : Nat) (ρ3 : St → Option (List UInt8)) (n : Nat) (s3 : (List UInt8)) (t8 : (List D61)) (t9 : Int) (t10 : Int) (t21 : (List (List UInt8))) (t22 : Int) (t23 : Int) : Option (List UInt8) := ammoniteref10_Print.r7 K ρ3 n (ammoniteref10_Print.m7 s3 t8 t9 t10 t21 t22 t23)
theorem ammoniteref10_Print.eq (K : Nat) (l0 : (List D61)) : ammoniteref10_Print.f K (l0, ()) =
  ((ammoniteref10_Print.l3 K K ([] : List UInt8) l0 (List.length l0 : Int) (0 : Int)) : Option (List UInt8)) := by kernel_rfl
theorem ammoniteref10_Print.l3_succ (K : Nat)  (n : Nat) (s3 : (List UInt8)) (t8 : (List D61)) (t9 : Int) (t10 : Int) : ammoniteref10_Print.l3 K (n + 1) s3 t8 t9 t10 =
  ((bif (decide (t10 < t9)) then
    (chks [(decide ((0 : Int) ≤ t10)), (decide (t10 < (List.length t8 : Int)))]
     (chks [(catOk s3 (textOf ([(List.getD t8 (Int.toNat t10) (DTy.dflt T61)).1] : List Int)))]
      (ammoniteref10_Print.l7 K (ammoniteref10_Print.r3 K n) K (s3 ++ (textOf ([(List.getD t8 (Int.toNat t10) (DTy.dflt T61)).1] : List Int))) t8 t9 t10 (List.getD t8 (Int.toNat t10) (DTy.dflt T61)).2.1 (List.length (List.getD t8 (Int.toNat t10) (DTy.dflt T61)).2.1 : Int) (0 : Int))))
  else
    (chks [(catOk s3 ([90, 32] : List UInt8))]
     ((ammoniteref1_Sum.f K (s3, ())).bind fun v_1 =>
      (chks [(catOk (s3 ++ ([90, 32] : List UInt8)) v_1)]
       (chks [(catOk ((s3 ++ ([90, 32] : List UInt8)) ++ v_1) ([10] : List UInt8))]
        (some (((s3 ++ ([90, 32] : List UInt8)) ++ v_1) ++ ([10] : List UInt8)))))))) : Option (List UInt8)) := by kernel_rfl
theorem ammoniteref10_Print.l7_succ (K : Nat) (ρ3 : St → Option (List UInt8)) (n : Nat) (s3 : (List UInt8)) (t8 : (List D61)) (t9 : Int) (t10 : Int) (t21 : (List (List UInt8))) (t22 : Int) (t23 : Int) : ammoniteref10_Print.l7 K ρ3 (n + 1) s3 t8 t9 t10 t21 t22 t23 =
  ((bif (decide (t23 < t22)) then
    (chks [(decide ((0 : Int) ≤ t23)), (decide (t23 < (List.length t21 : Int)))]
     (chks [(catOk s3 ([32] : List UInt8))]
      (chks [(catOk (s3 ++ ([32] : List UInt8)) (List.getD t21 (Int.toNat t23) (DTy.dflt .str)))]
       (ammoniteref10_Print.l7 K ρ3 n ((s3 ++ ([32] : List UInt8)) ++ (List.getD t21 (Int.toNat t23) (DTy.dflt .str))) t8 t9 t10 t21 t22 (IntKind.wrap .i64 (t23 + (1 : Int)))))))
  else
    (chks [(catOk s3 ([10] : List UInt8))]
     (ρ3 (ammoniteref10_Print.m3 (s3 ++ ([10] : List UInt8)) t8 t9 (IntKind.wrap .i64 (t10 + (1 : Int))))))) : Option (List UInt8)) := by kernel_rfl
theorem ammoniteref10_Print.tbOk (K : Nat) : TbOk Try.prog (ammoniteref10_Print.tb K) := by
  intro e he
  simp only [ammoniteref10_Print.tb, List.mem_cons, List.not_mem_nil, or_false] at he
  rcases he with rfl
  · exact ⟨ammoniteref1_Sum.ok K, enters_of Try.func7 (by kernel_rfl) rfl⟩
theorem ammoniteref10_Print.itsOk : ItbOk Try.prog ammoniteref10_Print.its := by
  intro e he
  simp only [ammoniteref10_Print.its, List.mem_cons, List.not_mem_nil, or_false] at he
theorem ammoniteref10_Print.ok (K : Nat) : PureC Try.prog 30 ⟨[(.slice T61)], [.str], ammoniteref10_Print.f K⟩ :=
  fn_sound (itOk _ _) (E := ammoniteref10_Print.E K) (full_ok tys_ok ammoniteref10_Print.itsOk (ammoniteref10_Print.tbOk K) par_ok bld_ok bty_ok) mixed Try.func30 (c := ammoniteref10_Print.code) (by kernel_rfl) (by kernel_rfl) (by decide) (by kernel_rfl)
/-! ### ammonite/ammonitebook.Within: function 20 -/
noncomputable def ammonitebook_Within.tb (K : Nat) : Tb := []
noncomputable def ammonitebook_Within.its : Itb := []
noncomputable def ammonitebook_Within.code : Code := (Try.f20.body).getD .skip
noncomputable def ammonitebook_Within.nm : Nat → NormSpec := lookN []
noncomputable def ammonitebook_Within.pre : Nat → Option NormSpec := lookP []
noncomputable def ammonitebook_Within.E (K : Nat) : Env := ⟨lookR tys, bty, fullCall ammonitebook_Within.its (ammonitebook_Within.tb K) bids⟩
noncomputable def ammonitebook_Within.ret (K : Nat) : St → Option (resT [(.int .i64)]).den := retA (ammonitebook_Within.E K) [(.int .i64)] [(.tmp 6)]
noncomputable def ammonitebook_Within.C (K : Nat) : CEnv (resT [(.int .i64)]).den := ⟨ammonitebook_Within.E K, 24, K, ammonitebook_Within.nm, ammonitebook_Within.ret K, [], fun _ => false, ammonitebook_Within.pre, lookG []⟩
noncomputable def ammonitebook_Within.f (K : Nat) (x : (prodT [(.int .i64), (.int .i64), (.int .i64)]).den) : Option (resT [(.int .i64)]).den := exec ammonitebook_Within.code (ammonitebook_Within.C K) (ammonitebook_Within.ret K) (init [(.int .i64), (.int .i64), (.int .i64)] x)
theorem ammonitebook_Within.eq (K : Nat) (n0 : Int) (lo1 : Int) (hi2 : Int) : ammonitebook_Within.f K (n0, lo1, hi2, ()) =
  ((chks [(!(decide ((IntKind.wrap .i64 ((IntKind.wrap .i64 (hi2 - lo1)) + (1 : Int))) = (0 : Int))))]
   (bif (decide ((Int.tmod n0 (IntKind.wrap .i64 ((IntKind.wrap .i64 (hi2 - lo1)) + (1 : Int)))) < (0 : Int))) then
     (some (IntKind.wrap .i64 (lo1 + (IntKind.wrap .i64 ((IntKind.wrap .i64 ((IntKind.wrap .i64 ((Int.tmod n0 (IntKind.wrap .i64 ((IntKind.wrap .i64 (hi2 - lo1)) + (1 : Int)))) + hi2)) - lo1)) + (1 : Int))))))
   else
     (some (IntKind.wrap .i64 (lo1 + (Int.tmod n0 (IntKind.wrap .i64 ((IntKind.wrap .i64 (hi2 - lo1)) + (1 : Int))))))))) : Option Int) := by kernel_rfl
theorem ammonitebook_Within.tbOk (K : Nat) : TbOk Try.prog (ammonitebook_Within.tb K) := by
  intro e he
  simp only [ammonitebook_Within.tb, List.mem_cons, List.not_mem_nil, or_false] at he
theorem ammonitebook_Within.itsOk : ItbOk Try.prog ammonitebook_Within.its := by
  intro e he
  simp only [ammonitebook_Within.its, List.mem_cons, List.not_mem_nil, or_false] at he
theorem ammonitebook_Within.ok (K : Nat) : PureC Try.prog 20 ⟨[(.int .i64), (.int .i64), (.int .i64)], [(.int .i64)], ammonitebook_Within.f K⟩ :=
  fn_sound (itOk _ _) (E := ammonitebook_Within.E K) (full_ok tys_ok ammonitebook_Within.itsOk (ammonitebook_Within.tbOk K) par_ok bld_ok bty_ok) mixed Try.func20 (c := ammonitebook_Within.code) (by kernel_rfl) (by kernel_rfl) (by decide) (by kernel_rfl)
/-! ### ammonite/ammoniteref10.words: function 59 -/
/-! ### ammonite/ammoniteref10.Cards: function 37 -/
end Go.Proofs.Ytjpbbjcfdeappaa.Ab
