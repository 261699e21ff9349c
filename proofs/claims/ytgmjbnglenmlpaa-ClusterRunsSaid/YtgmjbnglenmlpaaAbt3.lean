import Derived.Test.YtgmjbnglenmlpaaAbE
import Derived.Test.YtgmjbnglenmlpaaProg
set_option linter.unusedVariables false
set_option linter.unusedSimpArgs false
set_option maxRecDepth 100000
namespace Go.Proofs.Ytgmjbnglenmlpaa.Ab
open Go Go.RowKit Go.Proofs
/-- ammonite/ammoniteref10.Card -/
abbrev T61 : DTy := (.prod (.int .u8) (.prod (.slice .str) .unit))
abbrev D61 : Type := (Int × ((List (List UInt8)) × Unit))
/-- ammonite/card.Card -/
abbrev T55 : DTy := (.prod (.int .u8) (.prod (.slice .str) .unit))
abbrev D55 : Type := (Int × ((List (List UInt8)) × Unit))
def tys : List (Nat × TyRow) := [
  (5, ⟨(.int .u8), 1, 1, some (.int .u8), [(.d (.int .u8) (0 : Int))], false⟩),
  (9, ⟨.str, 1, 16, some .str, [(.d .str ([] : (List UInt8)))], false⟩),
  (23, ⟨(.slice 9), 1, 24, some (.slice .str), [.nils], false⟩),
  (44, ⟨(.slice 5), 1, 24, some (.slice (.int .u8)), [.nils], false⟩),
  (48, ⟨(.slice 55), 1, 24, some (.slice T55), [.nils], false⟩),
  (55, ⟨(.struct [(5, 0), (23, 1)]), 2, 32, some T55, [(.d (.int .u8) (0 : Int)), .nils], false⟩),
  (58, ⟨(.slice 61), 1, 24, some (.slice T55), [.nils], false⟩),
  (61, ⟨(.struct [(5, 0), (23, 1)]), 2, 32, some T55, [(.d (.int .u8) (0 : Int)), .nils], false⟩),
  (70, ⟨(.ptr 72), 1, 8, none, [.nilp], false⟩),
  (72, ⟨(.struct [(70, 0), (44, 1)]), 2, 32, none, [.nilp, .nils], false⟩)]
theorem tys_ok : ∀ e ∈ tys, RowOk Try.prog (lookR tys) e.1 e.2 := by
  intro e he
  simp only [tys, List.mem_cons, List.not_mem_nil, or_false] at he
  rcases he with rfl | rfl | rfl | rfl | rfl | rfl | rfl | rfl | rfl | rfl
  all_goals exact ⟨by kernel_rfl, by kernel_rfl, by kernel_rfl, by kernel_rfl⟩
/-! ### ammonite/card.Right: function 36 -/
noncomputable def card_Right.tb (K : Nat) : Tb := [(45, ⟨[.str, .str], [.bool], strings_Contains.f K⟩)]
noncomputable def card_Right.its : Itb := []
noncomputable def card_Right.code : Code := (Try.f36.body).getD .skip
noncomputable def card_Right.nm : Nat → NormSpec := lookN [(2, ⟨[(0, (.data (.slice T55))), (7, (.data (.slice T55))), (8, (.data (.int .i64))), (9, (.data (.int .i64)))], [], []⟩), (7, ⟨[(0, (.data (.slice T55))), (7, (.data (.slice T55))), (8, (.data (.int .i64))), (9, (.data (.int .i64))), (38, (.data (.slice .str))), (39, (.data (.int .i64))), (40, (.data (.int .i64)))], [], []⟩)]
noncomputable def card_Right.pre : Nat → Option NormSpec := lookP []
noncomputable def card_Right.E (K : Nat) : Env := ⟨lookR tys, bty, fullCall card_Right.its (card_Right.tb K) bids⟩
noncomputable def card_Right.ret (K : Nat) : St → Option (resT [.bool]).den := retA (card_Right.E K) [.bool] [(.tmp 2)]
noncomputable def card_Right.C (K : Nat) : CEnv (resT [.bool]).den := ⟨card_Right.E K, 59, K, card_Right.nm, card_Right.ret K, [], fun _ => false, card_Right.pre, lookG []⟩
noncomputable def card_Right.f (K : Nat) (x : (prodT [(.slice T55)]).den) : Option (resT [.bool]).den := exec card_Right.code (card_Right.C K) (card_Right.ret K) (init [(.slice T55)] x)
noncomputable def card_Right.m2 (l0 : (List D55)) (t7 : (List D55)) (t8 : Int) (t9 : Int) : St := mkSt [(0, (.d (.slice T55) (l0 : (List D55)))), (7, (.d (.slice T55) (t7 : (List D55)))), (8, (.d (.int .i64) (t8 : Int))), (9, (.d (.int .i64) (t9 : Int)))] []
noncomputable def card_Right.r2 (K : Nat)  (n : Nat) : St → Option Bool := loopAt [.r, .l, .r, .b] card_Right.code (card_Right.C K) (card_Right.ret K) [] n
noncomputable def card_Right.l2 (K : Nat)  (n : Nat) (l0 : (List D55)) (t7 : (List D55)) (t8 : Int) (t9 : Int) : Option Bool := card_Right.r2 K n (card_Right.m2 l0 t7 t8 t9)
noncomputable def card_Right.m7 (l0 : (List D55)) (t7 : (List D55)) (t8 : Int) (t9 : Int) (t38 : (List (List UInt8))) (t39 : Int) (t40 : Int) : St := mkSt [(0, (.d (.slice T55) (l0 : (List D55)))), (7, (.d (.slice T55) (t7 : (List D55)))), (8, (.d (.int .i64) (t8 : Int))), (9, (.d (.int .i64) (t9 : Int))), (38, (.d (.slice .str) (t38 : (List (List UInt8))))), (39, (.d (.int .i64) (t39 : Int))), (40, (.d (.int .i64) (t40 : Int)))] []
noncomputable def card_Right.r7 (K : Nat) (ρ2 : St → Option Bool) (n : Nat) : St → Option Bool := loopAt [.r, .l, .r, .b, .o, .r, .r, .l, .b, .r, .r, .r, .b] card_Right.code (card_Right.C K) (card_Right.ret K) [ρ2] n
noncomputable def card_Right.l7 (K : Nat) (ρ2 : St → Option Bool) (n : Nat) (l0 : (List D55)) (t7 : (List D55)) (t8 : Int) (t9 : Int) (t38 : (List (List UInt8))) (t39 : Int) (t40 : Int) : Option Bool := card_Right.r7 K ρ2 n (card_Right.m7 l0 t7 t8 t9 t38 t39 t40)
theorem card_Right.eq (K : Nat) (l0 : (List D55)) : card_Right.f K (l0, ()) =
  ((card_Right.l2 K K l0 l0 (List.length l0 : Int) (0 : Int)) : Option Bool) := by kernel_rfl
theorem card_Right.l2_zero (K : Nat)  (l0 : (List D55)) (t7 : (List D55)) (t8 : Int) (t9 : Int) : card_Right.l2 K 0 l0 t7 t8 t9 = none := by kernel_rfl
theorem card_Right.l2_succ (K : Nat)  (n : Nat) (l0 : (List D55)) (t7 : (List D55)) (t8 : Int) (t9 : Int) : card_Right.l2 K (n + 1) l0 t7 t8 t9 =
  ((bif (decide (t9 < t8)) then
    (chks [(decide ((0 : Int) ≤ t9)), (decide (t9 < (List.length t7 : Int)))]
     (bif (decide ((List.getD t7 (Int.toNat t9) (DTy.dflt T55)).1 < (65 : Int))) then
       (some false)
     else
       (bif (decide ((89 : Int) < (List.getD t7 (Int.toNat t9) (DTy.dflt T55)).1)) then
         (some false)
       else
         (bif (decide ((0 : Int) < t9)) then
           (chks [(decide ((0 : Int) ≤ (IntKind.wrap .i64 (t9 - (1 : Int))))), (decide ((IntKind.wrap .i64 (t9 - (1 : Int))) < (List.length l0 : Int)))]
            (bif (decide ((List.getD t7 (Int.toNat t9) (DTy.dflt T55)).1 < (List.getD l0 (Int.toNat (IntKind.wrap .i64 (t9 - (1 : Int)))) (DTy.dflt T55)).1)) then
              (some false)
            else
              (card_Right.l7 K (card_Right.r2 K n) K l0 t7 t8 t9 (List.getD t7 (Int.toNat t9) (DTy.dflt T55)).2.1 (List.length (List.getD t7 (Int.toNat t9) (DTy.dflt T55)).2.1 : Int) (0 : Int))))
         else
           (card_Right.l7 K (card_Right.r2 K n) K l0 t7 t8 t9 (List.getD t7 (Int.toNat t9) (DTy.dflt T55)).2.1 (List.length (List.getD t7 (Int.toNat t9) (DTy.dflt T55)).2.1 : Int) (0 : Int))))))
  else
    (some (decide ((0 : Int) < (List.length l0 : Int))))) : Option Bool) := by kernel_rfl
theorem card_Right.l7_zero (K : Nat) (ρ2 : St → Option Bool) (l0 : (List D55)) (t7 : (List D55)) (t8 : Int) (t9 : Int) (t38 : (List (List UInt8))) (t39 : Int) (t40 : Int) : card_Right.l7 K ρ2 0 l0 t7 t8 t9 t38 t39 t40 = none := by kernel_rfl
theorem card_Right.l7_succ (K : Nat) (ρ2 : St → Option Bool) (n : Nat) (l0 : (List D55)) (t7 : (List D55)) (t8 : Int) (t9 : Int) (t38 : (List (List UInt8))) (t39 : Int) (t40 : Int) : card_Right.l7 K ρ2 (n + 1) l0 t7 t8 t9 t38 t39 t40 =
  ((bif (decide (t40 < t39)) then
    (chks [(decide ((0 : Int) ≤ t40)), (decide (t40 < (List.length t38 : Int)))]
     (bif (decide ((List.getD t38 (Int.toNat t40) (DTy.dflt .str)) = ([] : List UInt8))) then
       (some false)
     else
       ((strings_Contains.f K ((List.getD t38 (Int.toNat t40) (DTy.dflt .str)), ([32] : List UInt8), ())).bind fun v_1 =>
        (bif v_1 then
          (some false)
        else
          ((strings_Contains.f K ((List.getD t38 (Int.toNat t40) (DTy.dflt .str)), ([10] : List UInt8), ())).bind fun v_2 =>
           (bif v_2 then
             (some false)
           else
             (card_Right.l7 K ρ2 n l0 t7 t8 t9 t38 t39 (IntKind.wrap .i64 (t40 + (1 : Int))))))))))
  else
    (ρ2 (card_Right.m2 l0 t7 t8 (IntKind.wrap .i64 (t9 + (1 : Int)))))) : Option Bool) := by kernel_rfl
theorem card_Right.tbOk (K : Nat) : TbOk Try.prog (card_Right.tb K) := by
  intro e he
  simp only [card_Right.tb, List.mem_cons, List.not_mem_nil, or_false] at he
  rcases he with rfl
  · exact ⟨strings_Contains.ok K, enters_of Try.func45 (by kernel_rfl) rfl⟩

theorem card_Right.itsOk : ItbOk Try.prog card_Right.its := by
  intro e he
  simp only [card_Right.its, List.mem_cons, List.not_mem_nil, or_false] at he

theorem card_Right.ok (K : Nat) : PureC Try.prog 36 ⟨[(.slice T55)], [.bool], card_Right.f K⟩ :=
  fn_sound (itOk _ _) (E := card_Right.E K) (full_ok tys_ok card_Right.itsOk (card_Right.tbOk K) par_ok bld_ok bty_ok) mixed Try.func36 (c := card_Right.code) (by kernel_rfl) (by kernel_rfl) (by decide) (by kernel_rfl)
/-! ### ammonite/card.sealed: function 32 -/
noncomputable def card_sealed.tb (K : Nat) : Tb := [(42, ⟨[.str], [.str], hash_Sum.f K⟩)]
noncomputable def card_sealed.its : Itb := []
noncomputable def card_sealed.code : Code := (Try.f32.body).getD .skip
noncomputable def card_sealed.nm : Nat → NormSpec := lookN []
noncomputable def card_sealed.pre : Nat → Option NormSpec := lookP []
noncomputable def card_sealed.E (K : Nat) : Env := ⟨lookR tys, bty, fullCall card_sealed.its (card_sealed.tb K) bids⟩
noncomputable def card_sealed.ret (K : Nat) : St → Option (resT [.str]).den := retA (card_sealed.E K) [.str] [(.tmp 2)]
noncomputable def card_sealed.C (K : Nat) : CEnv (resT [.str]).den := ⟨card_sealed.E K, 9, K, card_sealed.nm, card_sealed.ret K, [], fun _ => false, card_sealed.pre, lookG []⟩
noncomputable def card_sealed.f (K : Nat) (x : (prodT [.str]).den) : Option (resT [.str]).den := exec card_sealed.code (card_sealed.C K) (card_sealed.ret K) (init [.str] x)
theorem card_sealed.eq (K : Nat) (s0 : (List UInt8)) : card_sealed.f K (s0, ()) =
  ((chks [(catOk s0 ([90, 32] : List UInt8))]
   ((hash_Sum.f K (s0, ())).bind fun v_1 =>
    (chks [(catOk (s0 ++ ([90, 32] : List UInt8)) v_1)]
     (chks [(catOk ((s0 ++ ([90, 32] : List UInt8)) ++ v_1) ([10] : List UInt8))]
      (some (((s0 ++ ([90, 32] : List UInt8)) ++ v_1) ++ ([10] : List UInt8))))))) : Option (List UInt8)) := by kernel_rfl
theorem card_sealed.tbOk (K : Nat) : TbOk Try.prog (card_sealed.tb K) := by
  intro e he
  simp only [card_sealed.tb, List.mem_cons, List.not_mem_nil, or_false] at he
  rcases he with rfl
  · exact ⟨hash_Sum.ok K, enters_of Try.func42 (by kernel_rfl) rfl⟩

theorem card_sealed.itsOk : ItbOk Try.prog card_sealed.its := by
  intro e he
  simp only [card_sealed.its, List.mem_cons, List.not_mem_nil, or_false] at he

theorem card_sealed.ok (K : Nat) : PureC Try.prog 32 ⟨[.str], [.str], card_sealed.f K⟩ :=
  fn_sound (itOk _ _) (E := card_sealed.E K) (full_ok tys_ok card_sealed.itsOk (card_sealed.tbOk K) par_ok bld_ok bty_ok) mixed Try.func32 (c := card_sealed.code) (by kernel_rfl) (by kernel_rfl) (by decide) (by kernel_rfl)
/-! ### ammonite/card.Print: function 24 -/
noncomputable def card_Print.tb (K : Nat) : Tb := [(36, ⟨[(.slice T55)], [.bool], card_Right.f K⟩), (38, ⟨[(.slice .str), .str], [.str], strings_Join.f K⟩), (32, ⟨[.str], [.str], card_sealed.f K⟩)]
noncomputable def card_Print.its : Itb := []
noncomputable def card_Print.code : Code := (Try.f24.body).getD .skip
noncomputable def card_Print.nm : Nat → NormSpec := lookN [(5, ⟨[(3, .raw), (9, (.data (.slice T55))), (10, (.data (.int .i64))), (11, (.data (.int .i64)))], [], [3]⟩)]
noncomputable def card_Print.pre : Nat → Option NormSpec := lookP []
noncomputable def card_Print.E (K : Nat) : Env := ⟨lookR tys, bty, fullCall card_Print.its (card_Print.tb K) bids⟩
noncomputable def card_Print.ret (K : Nat) : St → Option (resT [.str]).den := retA (card_Print.E K) [.str] [(.tmp 2)]
noncomputable def card_Print.C (K : Nat) : CEnv (resT [.str]).den := ⟨card_Print.E K, 29, K, card_Print.nm, card_Print.ret K, [], fun _ => false, card_Print.pre, lookG []⟩
noncomputable def card_Print.f (K : Nat) (x : (prodT [(.slice T55)]).den) : Option (resT [.str]).den := exec card_Print.code (card_Print.C K) (card_Print.ret K) (init [(.slice T55)] x)
noncomputable def card_Print.m5 (t9 : (List D55)) (t10 : Int) (t11 : Int) (k3 : (List UInt8)) : St := mkSt [(3, (.ptr 3 0)), (9, (.d (.slice T55) (t9 : (List D55)))), (10, (.d (.int .i64) (t10 : Int))), (11, (.d (.int .i64) (t11 : Int)))] [(3, (.bld k3))]
noncomputable def card_Print.r5 (K : Nat)  (n : Nat) : St → Option (List UInt8) := loopAt [.r, .r, .r, .l, .r, .b] card_Print.code (card_Print.C K) (card_Print.ret K) [] n
noncomputable def card_Print.l5 (K : Nat)  (n : Nat) (t9 : (List D55)) (t10 : Int) (t11 : Int) (k3 : (List UInt8)) : Option (List UInt8) := card_Print.r5 K n (card_Print.m5 t9 t10 t11 k3)
theorem card_Print.eq (K : Nat) (l0 : (List D55)) : card_Print.f K (l0, ()) =
  (((card_Right.f K (l0, ())).bind fun v_1 =>
   (bif (!v_1) then
     (some ([] : List UInt8))
   else
     (card_Print.l5 K K l0 (List.length l0 : Int) (0 : Int) ([] : List UInt8)))) : Option (List UInt8)) := by kernel_rfl
theorem card_Print.l5_zero (K : Nat)  (t9 : (List D55)) (t10 : Int) (t11 : Int) (k3 : (List UInt8)) : card_Print.l5 K 0 t9 t10 t11 k3 = none := by kernel_rfl
theorem card_Print.l5_succ (K : Nat)  (n : Nat) (t9 : (List D55)) (t10 : Int) (t11 : Int) (k3 : (List UInt8)) : card_Print.l5 K (n + 1) t9 t10 t11 k3 =
  ((bif (decide (t11 < t10)) then
    (chks [(decide ((0 : Int) ≤ t11)), (decide (t11 < (List.length t9 : Int)))]
     (chks [(growOk (List.length ([(textOf ([(List.getD t9 (Int.toNat t11) (DTy.dflt T55)).1] : List Int))] : List (List UInt8))) (List.length (List.getD t9 (Int.toNat t11) (DTy.dflt T55)).2.1) 16)]
      ((strings_Join.f K ((([(textOf ([(List.getD t9 (Int.toNat t11) (DTy.dflt T55)).1] : List Int))] : List (List UInt8)) ++ (List.getD t9 (Int.toNat t11) (DTy.dflt T55)).2.1), ([32] : List UInt8), ())).bind fun v_1 =>
       (chks [(catOk v_1 ([10] : List UInt8))]
        (chks [(bldOk k3 (v_1 ++ ([10] : List UInt8)))]
         (card_Print.l5 K n t9 t10 (IntKind.wrap .i64 (t11 + (1 : Int))) (k3 ++ (v_1 ++ ([10] : List UInt8)))))))))
  else
    ((card_sealed.f K (k3, ())).bind fun v_2 =>
     (some v_2))) : Option (List UInt8)) := by kernel_rfl
theorem card_Print.tbOk (K : Nat) : TbOk Try.prog (card_Print.tb K) := by
  intro e he
  simp only [card_Print.tb, List.mem_cons, List.not_mem_nil, or_false] at he
  rcases he with rfl | rfl | rfl
  · exact ⟨card_Right.ok K, enters_of Try.func36 (by kernel_rfl) rfl⟩
  · exact ⟨strings_Join.ok K, enters_of Try.func38 (by kernel_rfl) rfl⟩
  · exact ⟨card_sealed.ok K, enters_of Try.func32 (by kernel_rfl) rfl⟩

theorem card_Print.itsOk : ItbOk Try.prog card_Print.its := by
  intro e he
  simp only [card_Print.its, List.mem_cons, List.not_mem_nil, or_false] at he

theorem card_Print.ok (K : Nat) : PureC Try.prog 24 ⟨[(.slice T55)], [.str], card_Print.f K⟩ :=
  fn_sound (itOk _ _) (E := card_Print.E K) (full_ok tys_ok card_Print.itsOk (card_Print.tbOk K) par_ok bld_ok bty_ok) mixed Try.func24 (c := card_Print.code) (by kernel_rfl) (by kernel_rfl) (by decide) (by kernel_rfl)
/-! ### ammonite/card.Read: function 22 -/
noncomputable def card_Read.tb (K : Nat) : Tb := [(32, ⟨[.str], [.str], card_sealed.f K⟩), (33, ⟨[.str, .str], [.str, .str, .bool], strings_Cut.f K⟩), (24, ⟨[(.slice T55)], [.str], card_Print.f K⟩)]
noncomputable def card_Read.its : Itb := [(34, ⟨[.str], (.prod .str .unit), escape_Words.L⟩)]
noncomputable def card_Read.code : Code := (Try.f22.body).getD .skip
noncomputable def card_Read.nm : Nat → NormSpec := lookN [(5, ⟨[(0, (.data .str)), (2, (.vec T55)), (3, (.data .bool)), (4, (.vec T55)), (5, (.data .str))], [], []⟩), (10, ⟨[(0, (.data .str)), (2, (.vec T55)), (3, (.data .bool)), (4, (.vec T55)), (5, (.data .str)), (7, (.data .str)), (9, .raw)], [(9, [(.data (.int .u8)), (.vec .str)])], []⟩)]
noncomputable def card_Read.pre : Nat → Option NormSpec := lookP []
noncomputable def card_Read.E (K : Nat) : Env := ⟨lookR tys, bty, fullCall card_Read.its (card_Read.tb K) bids⟩
noncomputable def card_Read.ret (K : Nat) : St → Option (resT [(.slice T55), .bool]).den := retA (card_Read.E K) [(.slice T55), .bool] [(.tmp 2), (.tmp 3)]
noncomputable def card_Read.C (K : Nat) : CEnv (resT [(.slice T55), .bool]).den := ⟨card_Read.E K, 73, K, card_Read.nm, card_Read.ret K, [], fun _ => false, card_Read.pre, lookG []⟩
noncomputable def card_Read.f (K : Nat) (x : (prodT [.str]).den) : Option (resT [(.slice T55), .bool]).den := exec card_Read.code (card_Read.C K) (card_Read.ret K) (init [.str] x)
noncomputable def card_Read.m5 (s0 : (List UInt8)) (t2 : (List D55)) (t3 : Bool) (out4 : (List D55)) (rest5 : (List UInt8)) : St := mkSt [(0, (.d .str (s0 : (List UInt8)))), (2, (.vs 2 0 T55 (t2 : List D55))), (3, (.d .bool (t3 : Bool))), (4, (.vs 4 0 T55 (out4 : List D55))), (5, (.d .str (rest5 : (List UInt8))))] [(2, (.vec T55 0)), (4, (.vec T55 0))]
noncomputable def card_Read.r5 (K : Nat)  (n : Nat) : St → Option ((List D55) × Bool × Unit) := loopAt [.r, .s, .r, .r, .r, .r, .l, .b] card_Read.code (card_Read.C K) (card_Read.ret K) [] n
noncomputable def card_Read.l5 (K : Nat)  (n : Nat) (s0 : (List UInt8)) (t2 : (List D55)) (t3 : Bool) (out4 : (List D55)) (rest5 : (List UInt8)) : Option ((List D55) × Bool × Unit) := card_Read.r5 K n (card_Read.m5 s0 t2 t3 out4 rest5)
noncomputable def card_Read.m10 (s0 : (List UInt8)) (t2 : (List D55)) (t3 : Bool) (out4 : (List D55)) (rest5 : (List UInt8)) (behind7 : (List UInt8)) (bc9_0 : Int) (bc9_1 : (List (List UInt8))) : St := mkSt [(0, (.d .str (s0 : (List UInt8)))), (2, (.vs 2 0 T55 (t2 : List D55))), (3, (.d .bool (t3 : Bool))), (4, (.vs 4 0 T55 (out4 : List D55))), (5, (.d .str (rest5 : (List UInt8)))), (7, (.d .str (behind7 : (List UInt8)))), (9, (.ptr 9 0))] [(2, (.vec T55 0)), (4, (.vec T55 0)), (9, (.box [(.d (.int .u8) (bc9_0 : Int)), (.vs 10901 0 .str (bc9_1 : List (List UInt8)))])), (10901, (.vec .str 0))]
noncomputable def card_Read.r10 (K : Nat) (ρ5 : St → Option ((List D55) × Bool × Unit)) (l : List ((List UInt8) × Unit)) : St → Option ((List D55) × Bool × Unit) := rangeAt [.r, .s, .r, .r, .r, .r, .l, .b, .o, .r, .b, .r, .r, .r, .l, .r, .b] card_Read.code (card_Read.C K) (card_Read.ret K) [ρ5] (.prod .str .unit) l
noncomputable def card_Read.i10 (K : Nat) (ρ5 : St → Option ((List D55) × Bool × Unit)) (l : List ((List UInt8) × Unit)) (s0 : (List UInt8)) (t2 : (List D55)) (t3 : Bool) (out4 : (List D55)) (rest5 : (List UInt8)) (behind7 : (List UInt8)) (bc9_0 : Int) (bc9_1 : (List (List UInt8))) : Option ((List D55) × Bool × Unit) := card_Read.r10 K ρ5 l (card_Read.m10 s0 t2 t3 out4 rest5 behind7 bc9_0 bc9_1)
theorem card_Read.eq (K : Nat) (s0 : (List UInt8)) : card_Read.f K (s0, ()) =
  ((bif (decide ((List.length s0 : Int) < (43 : Int))) then
    (some (([] : (List D55)), false, ()))
  else
    (chks [(decide ((0 : Int) ≤ (IntKind.wrap .i64 ((List.length s0 : Int) - (43 : Int))))), (decide ((IntKind.wrap .i64 ((List.length s0 : Int) - (43 : Int))) ≤ (List.length s0 : Int)))]
     ((card_sealed.f K ((cutL s0 none (some (IntKind.wrap .i64 ((List.length s0 : Int) - (43 : Int))))), ())).bind fun v_1 =>
      (bif (!(decide (v_1 = s0))) then
        (some (([] : (List D55)), false, ()))
      else
        (chks [(decide ((0 : Int) ≤ (IntKind.wrap .i64 ((List.length s0 : Int) - (43 : Int))))), (decide ((IntKind.wrap .i64 ((List.length s0 : Int) - (43 : Int))) ≤ (List.length s0 : Int)))]
         (card_Read.l5 K K s0 ([] : (List D55)) false ([] : (List D55)) (cutL s0 none (some (IntKind.wrap .i64 ((List.length s0 : Int) - (43 : Int))))))))))) : Option ((List D55) × Bool × Unit)) := by kernel_rfl
theorem card_Read.l5_zero (K : Nat)  (s0 : (List UInt8)) (t2 : (List D55)) (t3 : Bool) (out4 : (List D55)) (rest5 : (List UInt8)) : card_Read.l5 K 0 s0 t2 t3 out4 rest5 = none := by kernel_rfl
theorem card_Read.l5_succ (K : Nat)  (n : Nat) (s0 : (List UInt8)) (t2 : (List D55)) (t3 : Bool) (out4 : (List D55)) (rest5 : (List UInt8)) : card_Read.l5 K (n + 1) s0 t2 t3 out4 rest5 =
  ((bif (!(decide (rest5 = ([] : List UInt8)))) then
    ((strings_Cut.f K (rest5, ([10] : List UInt8), ())).bind fun v_1 =>
     (bif (!v_1.2.2.1) then
       (bif (!(decide (rest5 = ([] : List UInt8)))) then
         (some (([] : (List D55)), false, ()))
       else
         ((card_Print.f K (out4, ())).bind fun v_2 =>
          (bif (!(decide (v_2 = s0))) then
            (some (([] : (List D55)), false, ()))
          else
            (some (out4, true, ())))))
     else
       ((escape_Words.L (v_1.1, ())).bind fun v_3 =>
        (card_Read.i10 K (card_Read.r5 K n) v_3 s0 t2 t3 out4 rest5 v_1.2.1 0 ([] : (List (List UInt8)))))))
  else
    (bif (!(decide (rest5 = ([] : List UInt8)))) then
      (some (([] : (List D55)), false, ()))
    else
      ((card_Print.f K (out4, ())).bind fun v_4 =>
       (bif (!(decide (v_4 = s0))) then
         (some (([] : (List D55)), false, ()))
       else
         (some (out4, true, ())))))) : Option ((List D55) × Bool × Unit)) := by kernel_rfl
theorem card_Read.i10_nil (K : Nat) (ρ5 : St → Option ((List D55) × Bool × Unit)) (s0 : (List UInt8)) (t2 : (List D55)) (t3 : Bool) (out4 : (List D55)) (rest5 : (List UInt8)) (behind7 : (List UInt8)) (bc9_0 : Int) (bc9_1 : (List (List UInt8))) : card_Read.i10 K ρ5 [] s0 t2 t3 out4 rest5 behind7 bc9_0 bc9_1 =
  ((chks [(growOk (List.length out4) (List.length ([(bc9_0, (bc9_1, ()))] : List D55)) 32)]
   (ρ5 (card_Read.m5 s0 t2 t3 (out4 ++ ([(bc9_0, (bc9_1, ()))] : List D55)) behind7))) : Option ((List D55) × Bool × Unit)) := by kernel_rfl
theorem card_Read.i10_cons (K : Nat) (ρ5 : St → Option ((List D55) × Bool × Unit)) (x10 : ((List UInt8) × Unit)) (l : List ((List UInt8) × Unit)) (s0 : (List UInt8)) (t2 : (List D55)) (t3 : Bool) (out4 : (List D55)) (rest5 : (List UInt8)) (behind7 : (List UInt8)) (bc9_0 : Int) (bc9_1 : (List (List UInt8))) : card_Read.i10 K ρ5 (x10 :: l) s0 t2 t3 out4 rest5 behind7 bc9_0 bc9_1 =
  ((bif (decide ((0 : Int) < bc9_0)) then
    (chks [(growOk (List.length bc9_1) (List.length ([x10.1] : List (List UInt8))) 16)]
     (card_Read.i10 K ρ5 l s0 t2 t3 out4 rest5 behind7 bc9_0 (bc9_1 ++ ([x10.1] : List (List UInt8)))))
  else
    (bif (decide ((List.length x10.1 : Int) = (1 : Int))) then
      (chks [(decide ((0 : Int) < (List.length x10.1 : Int)))]
       (card_Read.i10 K ρ5 l s0 t2 t3 out4 rest5 behind7 ((List.getD x10.1 (Int.toNat (0 : Int)) 0).toNat : Int) bc9_1))
    else
      (bif (!(decide (rest5 = ([] : List UInt8)))) then
        (some (([] : (List D55)), false, ()))
      else
        ((card_Print.f K (out4, ())).bind fun v_1 =>
         (bif (!(decide (v_1 = s0))) then
           (some (([] : (List D55)), false, ()))
         else
           (some (out4, true, ()))))))) : Option ((List D55) × Bool × Unit)) := by kernel_rfl
theorem card_Read.tbOk (K : Nat) : TbOk Try.prog (card_Read.tb K) := by
  intro e he
  simp only [card_Read.tb, List.mem_cons, List.not_mem_nil, or_false] at he
  rcases he with rfl | rfl | rfl
  · exact ⟨card_sealed.ok K, enters_of Try.func32 (by kernel_rfl) rfl⟩
  · exact ⟨strings_Cut.ok K, enters_of Try.func33 (by kernel_rfl) rfl⟩
  · exact ⟨card_Print.ok K, enters_of Try.func24 (by kernel_rfl) rfl⟩

theorem card_Read.itsOk : ItbOk Try.prog card_Read.its := by
  intro e he
  simp only [card_Read.its, List.mem_cons, List.not_mem_nil, or_false] at he
  rcases he with rfl
  · exact ⟨escape_Words.itc, enters_of Try.func34 (by kernel_rfl) rfl⟩

theorem card_Read.ok (K : Nat) : PureC Try.prog 22 ⟨[.str], [(.slice T55), .bool], card_Read.f K⟩ :=
  fn_sound (itOk _ _) (E := card_Read.E K) (full_ok tys_ok card_Read.itsOk (card_Read.tbOk K) par_ok bld_ok bty_ok) mixed Try.func22 (c := card_Read.code) (by kernel_rfl) (by kernel_rfl) (by decide) (by kernel_rfl)
/-! ### ammonite/ammoniteref10.Escape: function 28 -/
noncomputable def ammoniteref10_Escape.tb (K : Nat) : Tb := []
noncomputable def ammoniteref10_Escape.its : Itb := []
noncomputable def ammoniteref10_Escape.code : Code := (Try.f28.body).getD .skip
noncomputable def ammoniteref10_Escape.nm : Nat → NormSpec := lookN [(3, ⟨[(0, (.data .str)), (3, (.data .str)), (4, (.data (.int .i64)))], [], []⟩)]
noncomputable def ammoniteref10_Escape.pre : Nat → Option NormSpec := lookP []
noncomputable def ammoniteref10_Escape.E (K : Nat) : Env := ⟨lookR tys, bty, fullCall ammoniteref10_Escape.its (ammoniteref10_Escape.tb K) bids⟩
noncomputable def ammoniteref10_Escape.ret (K : Nat) : St → Option (resT [.str]).den := retA (ammoniteref10_Escape.E K) [.str] [(.tmp 2)]
noncomputable def ammoniteref10_Escape.C (K : Nat) : CEnv (resT [.str]).den := ⟨ammoniteref10_Escape.E K, 34, K, ammoniteref10_Escape.nm, ammoniteref10_Escape.ret K, [], fun _ => false, ammoniteref10_Escape.pre, lookG []⟩
noncomputable def ammoniteref10_Escape.f (K : Nat) (x : (prodT [.str]).den) : Option (resT [.str]).den := exec ammoniteref10_Escape.code (ammoniteref10_Escape.C K) (ammoniteref10_Escape.ret K) (init [.str] x)
noncomputable def ammoniteref10_Escape.m3 (s0 : (List UInt8)) (out3 : (List UInt8)) (i4 : Int) : St := mkSt [(0, (.d .str (s0 : (List UInt8)))), (3, (.d .str (out3 : (List UInt8)))), (4, (.d (.int .i64) (i4 : Int)))] []
noncomputable def ammoniteref10_Escape.r3 (K : Nat)  (n : Nat) : St → Option (List UInt8) := loopAt [.r, .r, .l, .r, .b] ammoniteref10_Escape.code (ammoniteref10_Escape.C K) (ammoniteref10_Escape.ret K) [] n
noncomputable def ammoniteref10_Escape.l3 (K : Nat)  (n : Nat) (s0 : (List UInt8)) (out3 : (List UInt8)) (i4 : Int) : Option (List UInt8) := ammoniteref10_Escape.r3 K n (ammoniteref10_Escape.m3 s0 out3 i4)
theorem ammoniteref10_Escape.eq (K : Nat) (s0 : (List UInt8)) : ammoniteref10_Escape.f K (s0, ()) =
  ((ammoniteref10_Escape.l3 K K s0 ([] : List UInt8) (0 : Int)) : Option (List UInt8)) := by kernel_rfl
theorem ammoniteref10_Escape.l3_zero (K : Nat)  (s0 : (List UInt8)) (out3 : (List UInt8)) (i4 : Int) : ammoniteref10_Escape.l3 K 0 s0 out3 i4 = none := by kernel_rfl
theorem ammoniteref10_Escape.l3_succ (K : Nat)  (n : Nat) (s0 : (List UInt8)) (out3 : (List UInt8)) (i4 : Int) : ammoniteref10_Escape.l3 K (n + 1) s0 out3 i4 =
  ((bif (decide (i4 < (List.length s0 : Int))) then
    (chks [(decide ((0 : Int) ≤ i4)), (decide (i4 < (List.length s0 : Int)))]
     (bif (decide (((List.getD s0 (Int.toNat i4) 0).toNat : Int) = (32 : Int))) then
       (chks [(catOk out3 ([92, 115] : List UInt8))]
        (ammoniteref10_Escape.l3 K n s0 (out3 ++ ([92, 115] : List UInt8)) (IntKind.wrap .i64 (i4 + (1 : Int)))))
     else
       (bif (decide (((List.getD s0 (Int.toNat i4) 0).toNat : Int) = (10 : Int))) then
         (chks [(catOk out3 ([92, 110] : List UInt8))]
          (ammoniteref10_Escape.l3 K n s0 (out3 ++ ([92, 110] : List UInt8)) (IntKind.wrap .i64 (i4 + (1 : Int)))))
       else
         (bif (decide (((List.getD s0 (Int.toNat i4) 0).toNat : Int) = (92 : Int))) then
           (chks [(catOk out3 ([92, 92] : List UInt8))]
            (ammoniteref10_Escape.l3 K n s0 (out3 ++ ([92, 92] : List UInt8)) (IntKind.wrap .i64 (i4 + (1 : Int)))))
         else
           (chks [(decide ((0 : Int) ≤ (IntKind.wrap .i64 (i4 + (1 : Int))))), (decide ((IntKind.wrap .i64 (i4 + (1 : Int))) ≤ (List.length s0 : Int))), (decide ((0 : Int) ≤ i4)), (decide (i4 ≤ (IntKind.wrap .i64 (i4 + (1 : Int)))))]
            (chks [(catOk out3 (cutL s0 (some i4) (some (IntKind.wrap .i64 (i4 + (1 : Int))))))]
             (ammoniteref10_Escape.l3 K n s0 (out3 ++ (cutL s0 (some i4) (some (IntKind.wrap .i64 (i4 + (1 : Int)))))) (IntKind.wrap .i64 (i4 + (1 : Int))))))))))
  else
    (some out3)) : Option (List UInt8)) := by kernel_rfl
theorem ammoniteref10_Escape.tbOk (K : Nat) : TbOk Try.prog (ammoniteref10_Escape.tb K) := by
  intro e he
  simp only [ammoniteref10_Escape.tb, List.mem_cons, List.not_mem_nil, or_false] at he

theorem ammoniteref10_Escape.itsOk : ItbOk Try.prog ammoniteref10_Escape.its := by
  intro e he
  simp only [ammoniteref10_Escape.its, List.mem_cons, List.not_mem_nil, or_false] at he

theorem ammoniteref10_Escape.ok (K : Nat) : PureC Try.prog 28 ⟨[.str], [.str], ammoniteref10_Escape.f K⟩ :=
  fn_sound (itOk _ _) (E := ammoniteref10_Escape.E K) (full_ok tys_ok ammoniteref10_Escape.itsOk (ammoniteref10_Escape.tbOk K) par_ok bld_ok bty_ok) mixed Try.func28 (c := ammoniteref10_Escape.code) (by kernel_rfl) (by kernel_rfl) (by decide) (by kernel_rfl)
/-! ### ammonite/ammoniteref10.Print: function 29 -/
noncomputable def ammoniteref10_Print.tb (K : Nat) : Tb := [(7, ⟨[.str], [.str], ammoniteref1_Sum.f K⟩)]
noncomputable def ammoniteref10_Print.its : Itb := []
noncomputable def ammoniteref10_Print.code : Code := (Try.f29.body).getD .skip
noncomputable def ammoniteref10_Print.nm : Nat → NormSpec := lookN [(3, ⟨[(3, (.data .str)), (8, (.data (.slice T55))), (9, (.data (.int .i64))), (10, (.data (.int .i64)))], [], []⟩), (7, ⟨[(3, (.data .str)), (8, (.data (.slice T55))), (9, (.data (.int .i64))), (10, (.data (.int .i64))), (21, (.data (.slice .str))), (22, (.data (.int .i64))), (23, (.data (.int .i64)))], [], []⟩)]
noncomputable def ammoniteref10_Print.pre : Nat → Option NormSpec := lookP []
noncomputable def ammoniteref10_Print.E (K : Nat) : Env := ⟨lookR tys, bty, fullCall ammoniteref10_Print.its (ammoniteref10_Print.tb K) bids⟩
noncomputable def ammoniteref10_Print.ret (K : Nat) : St → Option (resT [.str]).den := retA (ammoniteref10_Print.E K) [.str] [(.tmp 2)]
noncomputable def ammoniteref10_Print.C (K : Nat) : CEnv (resT [.str]).den := ⟨ammoniteref10_Print.E K, 41, K, ammoniteref10_Print.nm, ammoniteref10_Print.ret K, [], fun _ => false, ammoniteref10_Print.pre, lookG []⟩
noncomputable def ammoniteref10_Print.f (K : Nat) (x : (prodT [(.slice T55)]).den) : Option (resT [.str]).den := exec ammoniteref10_Print.code (ammoniteref10_Print.C K) (ammoniteref10_Print.ret K) (init [(.slice T55)] x)
noncomputable def ammoniteref10_Print.m3 (s3 : (List UInt8)) (t8 : (List D55)) (t9 : Int) (t10 : Int) : St := mkSt [(3, (.d .str (s3 : (List UInt8)))), (8, (.d (.slice T55) (t8 : (List D55)))), (9, (.d (.int .i64) (t9 : Int))), (10, (.d (.int .i64) (t10 : Int)))] []
noncomputable def ammoniteref10_Print.r3 (K : Nat)  (n : Nat) : St → Option (List UInt8) := loopAt [.r, .r, .l, .r, .b] ammoniteref10_Print.code (ammoniteref10_Print.C K) (ammoniteref10_Print.ret K) [] n
noncomputable def ammoniteref10_Print.l3 (K : Nat)  (n : Nat) (s3 : (List UInt8)) (t8 : (List D55)) (t9 : Int) (t10 : Int) : Option (List UInt8) := ammoniteref10_Print.r3 K n (ammoniteref10_Print.m3 s3 t8 t9 t10)
noncomputable def ammoniteref10_Print.m7 (s3 : (List UInt8)) (t8 : (List D55)) (t9 : Int) (t10 : Int) (t21 : (List (List UInt8))) (t22 : Int) (t23 : Int) : St := mkSt [(3, (.d .str (s3 : (List UInt8)))), (8, (.d (.slice T55) (t8 : (List D55)))), (9, (.d (.int .i64) (t9 : Int))), (10, (.d (.int .i64) (t10 : Int))), (21, (.d (.slice .str) (t21 : (List (List UInt8))))), (22, (.d (.int .i64) (t22 : Int))), (23, (.d (.int .i64) (t23 : Int)))] []
noncomputable def ammoniteref10_Print.r7 (K : Nat) (ρ3 : St → Option (List UInt8)) (n : Nat) : St → Option (List UInt8) := loopAt [.r, .r, .l, .r, .b, .o, .r, .r, .l, .b, .r, .r, .l, .r, .b] ammoniteref10_Print.code (ammoniteref10_Print.C K) (ammoniteref10_Print.ret K) [ρ3] n
noncomputable def ammoniteref10_Print.l7 (K : Nat) (ρ3 : St → Option (List UInt8)) (n : Nat) (s3 : (List UInt8)) (t8 : (List D55)) (t9 : Int) (t10 : Int) (t21 : (List (List UInt8))) (t22 : Int) (t23 : Int) : Option (List UInt8) := ammoniteref10_Print.r7 K ρ3 n (ammoniteref10_Print.m7 s3 t8 t9 t10 t21 t22 t23)
theorem ammoniteref10_Print.eq (K : Nat) (l0 : (List D55)) : ammoniteref10_Print.f K (l0, ()) =
  ((ammoniteref10_Print.l3 K K ([] : List UInt8) l0 (List.length l0 : Int) (0 : Int)) : Option (List UInt8)) := by kernel_rfl
theorem ammoniteref10_Print.l3_zero (K : Nat)  (s3 : (List UInt8)) (t8 : (List D55)) (t9 : Int) (t10 : Int) : ammoniteref10_Print.l3 K 0 s3 t8 t9 t10 = none := by kernel_rfl
theorem ammoniteref10_Print.l3_succ (K : Nat)  (n : Nat) (s3 : (List UInt8)) (t8 : (List D55)) (t9 : Int) (t10 : Int) : ammoniteref10_Print.l3 K (n + 1) s3 t8 t9 t10 =
  ((bif (decide (t10 < t9)) then
    (chks [(decide ((0 : Int) ≤ t10)), (decide (t10 < (List.length t8 : Int)))]
     (chks [(catOk s3 (textOf ([(List.getD t8 (Int.toNat t10) (DTy.dflt T55)).1] : List Int)))]
      (ammoniteref10_Print.l7 K (ammoniteref10_Print.r3 K n) K (s3 ++ (textOf ([(List.getD t8 (Int.toNat t10) (DTy.dflt T55)).1] : List Int))) t8 t9 t10 (List.getD t8 (Int.toNat t10) (DTy.dflt T55)).2.1 (List.length (List.getD t8 (Int.toNat t10) (DTy.dflt T55)).2.1 : Int) (0 : Int))))
  else
    (chks [(catOk s3 ([90, 32] : List UInt8))]
     ((ammoniteref1_Sum.f K (s3, ())).bind fun v_1 =>
      (chks [(catOk (s3 ++ ([90, 32] : List UInt8)) v_1)]
       (chks [(catOk ((s3 ++ ([90, 32] : List UInt8)) ++ v_1) ([10] : List UInt8))]
        (some (((s3 ++ ([90, 32] : List UInt8)) ++ v_1) ++ ([10] : List UInt8)))))))) : Option (List UInt8)) := by kernel_rfl
theorem ammoniteref10_Print.l7_zero (K : Nat) (ρ3 : St → Option (List UInt8)) (s3 : (List UInt8)) (t8 : (List D55)) (t9 : Int) (t10 : Int) (t21 : (List (List UInt8))) (t22 : Int) (t23 : Int) : ammoniteref10_Print.l7 K ρ3 0 s3 t8 t9 t10 t21 t22 t23 = none := by kernel_rfl
theorem ammoniteref10_Print.l7_succ (K : Nat) (ρ3 : St → Option (List UInt8)) (n : Nat) (s3 : (List UInt8)) (t8 : (List D55)) (t9 : Int) (t10 : Int) (t21 : (List (List UInt8))) (t22 : Int) (t23 : Int) : ammoniteref10_Print.l7 K ρ3 (n + 1) s3 t8 t9 t10 t21 t22 t23 =
  ((bif (decide (t23 < t22)) then
    (chks [(decide ((0 : Int) ≤ t23)), (decide (t23 < (List.length t21 : Int)))]
     (chks [(catOk s3 ([32] : List UInt8))]
      (chks [(catOk (s3 ++ ([32] : List UInt8)) (List.getD t21 (Int.toNat t23) (DTy.dflt .str)))]
       (ammoniteref10_Print.l7 K ρ3 n ((s3 ++ ([32] : List UInt8)) ++ (List.getD t21 (Int.toNat t23) (DTy.dflt .str))) t8 t9 t10 t21 t22 (IntKind.wrap .i64 (t23 + (1 : Int)))))))
  else
    (chks [(catOk s3 ([10] : List UInt8))]
     (ρ3 (ammoniteref10_Print.m3 (s3 ++ ([10] : List UInt8)) t8 t9 (IntKind.wrap .i64 (t10 + (1 : Int))))))) : Option (List UInt8)) := by kernel_rfl
theorem ammoniteref10_Print.tbOk (K : Nat) : TbOk Try.prog (ammoniteref10_Print.tb K) := by
  intro e he
  simp only [ammoniteref10_Print.tb, List.mem_cons, List.not_mem_nil, or_false] at he
  rcases he with rfl
  · exact ⟨ammoniteref1_Sum.ok K, enters_of Try.func7 (by kernel_rfl) rfl⟩

theorem ammoniteref10_Print.itsOk : ItbOk Try.prog ammoniteref10_Print.its := by
  intro e he
  simp only [ammoniteref10_Print.its, List.mem_cons, List.not_mem_nil, or_false] at he

theorem ammoniteref10_Print.ok (K : Nat) : PureC Try.prog 29 ⟨[(.slice T55)], [.str], ammoniteref10_Print.f K⟩ :=
  fn_sound (itOk _ _) (E := ammoniteref10_Print.E K) (full_ok tys_ok ammoniteref10_Print.itsOk (ammoniteref10_Print.tbOk K) par_ok bld_ok bty_ok) mixed Try.func29 (c := ammoniteref10_Print.code) (by kernel_rfl) (by kernel_rfl) (by decide) (by kernel_rfl)
/-! ### ammonite/ammonitebook.Within: function 19 -/
noncomputable def ammonitebook_Within.tb (K : Nat) : Tb := []
noncomputable def ammonitebook_Within.its : Itb := []
noncomputable def ammonitebook_Within.code : Code := (Try.f19.body).getD .skip
noncomputable def ammonitebook_Within.nm : Nat → NormSpec := lookN []
noncomputable def ammonitebook_Within.pre : Nat → Option NormSpec := lookP []
noncomputable def ammonitebook_Within.E (K : Nat) : Env := ⟨lookR tys, bty, fullCall ammonitebook_Within.its (ammonitebook_Within.tb K) bids⟩
noncomputable def ammonitebook_Within.ret (K : Nat) : St → Option (resT [(.int .i64)]).den := retA (ammonitebook_Within.E K) [(.int .i64)] [(.tmp 6)]
noncomputable def ammonitebook_Within.C (K : Nat) : CEnv (resT [(.int .i64)]).den := ⟨ammonitebook_Within.E K, 24, K, ammonitebook_Within.nm, ammonitebook_Within.ret K, [], fun _ => false, ammonitebook_Within.pre, lookG []⟩
noncomputable def ammonitebook_Within.f (K : Nat) (x : (prodT [(.int .i64), (.int .i64), (.int .i64)]).den) : Option (resT [(.int .i64)]).den := exec ammonitebook_Within.code (ammonitebook_Within.C K) (ammonitebook_Within.ret K) (init [(.int .i64), (.int .i64), (.int .i64)] x)
theorem ammonitebook_Within.eq (K : Nat) (n0 : Int) (lo1 : Int) (hi2 : Int) : ammonitebook_Within.f K (n0, lo1, hi2, ()) =
  ((chks [(!(decide ((IntKind.wrap .i64 ((IntKind.wrap .i64 (hi2 - lo1)) + (1 : Int))) = (0 : Int))))]
   (bif (decide ((Int.tmod n0 (IntKind.wrap .i64 ((IntKind.wrap .i64 (hi2 - lo1)) + (1 : Int)))) < (0 : Int))) then
     (some (IntKind.wrap .i64 (lo1 + (IntKind.wrap .i64 ((IntKind.wrap .i64 ((IntKind.wrap .i64 ((Int.tmod n0 (IntKind.wrap .i64 ((IntKind.wrap .i64 (hi2 - lo1)) + (1 : Int)))) + hi2)) - lo1)) + (1 : Int))))))
   else
     (some (IntKind.wrap .i64 (lo1 + (Int.tmod n0 (IntKind.wrap .i64 ((IntKind.wrap .i64 (hi2 - lo1)) + (1 : Int))))))))) : Option Int) := by kernel_rfl
theorem ammonitebook_Within.tbOk (K : Nat) : TbOk Try.prog (ammonitebook_Within.tb K) := by
  intro e he
  simp only [ammonitebook_Within.tb, List.mem_cons, List.not_mem_nil, or_false] at he

theorem ammonitebook_Within.itsOk : ItbOk Try.prog ammonitebook_Within.its := by
  intro e he
  simp only [ammonitebook_Within.its, List.mem_cons, List.not_mem_nil, or_false] at he

theorem ammonitebook_Within.ok (K : Nat) : PureC Try.prog 19 ⟨[(.int .i64), (.int .i64), (.int .i64)], [(.int .i64)], ammonitebook_Within.f K⟩ :=
  fn_sound (itOk _ _) (E := ammonitebook_Within.E K) (full_ok tys_ok ammonitebook_Within.itsOk (ammonitebook_Within.tbOk K) par_ok bld_ok bty_ok) mixed Try.func19 (c := ammonitebook_Within.code) (by kernel_rfl) (by kernel_rfl) (by decide) (by kernel_rfl)
/-! ### ammonite/ammoniteref10.words: function 41 -/
noncomputable def ammoniteref10_words.tb (K : Nat) : Tb := []
noncomputable def ammoniteref10_words.its : Itb := []
noncomputable def ammoniteref10_words.code : Code := (Try.f41.body).getD .skip
noncomputable def ammoniteref10_words.nm : Nat → NormSpec := lookN [(4, ⟨[(0, (.data .str)), (3, (.vec .str)), (4, (.data (.int .i64))), (5, (.data (.int .i64)))], [], []⟩)]
noncomputable def ammoniteref10_words.pre : Nat → Option NormSpec := lookP []
noncomputable def ammoniteref10_words.E (K : Nat) : Env := ⟨lookR tys, bty, fullCall ammoniteref10_words.its (ammoniteref10_words.tb K) bids⟩
noncomputable def ammoniteref10_words.ret (K : Nat) : St → Option (resT [(.slice .str)]).den := retA (ammoniteref10_words.E K) [(.slice .str)] [(.tmp 2)]
noncomputable def ammoniteref10_words.C (K : Nat) : CEnv (resT [(.slice .str)]).den := ⟨ammoniteref10_words.E K, 32, K, ammoniteref10_words.nm, ammoniteref10_words.ret K, [], fun _ => false, ammoniteref10_words.pre, lookG []⟩
noncomputable def ammoniteref10_words.f (K : Nat) (x : (prodT [.str]).den) : Option (resT [(.slice .str)]).den := exec ammoniteref10_words.code (ammoniteref10_words.C K) (ammoniteref10_words.ret K) (init [.str] x)
noncomputable def ammoniteref10_words.m4 (s0 : (List UInt8)) (out3 : (List (List UInt8))) (begin4 : Int) (i5 : Int) : St := mkSt [(0, (.d .str (s0 : (List UInt8)))), (3, (.vs 3 0 .str (out3 : List (List UInt8)))), (4, (.d (.int .i64) (begin4 : Int))), (5, (.d (.int .i64) (i5 : Int)))] [(3, (.vec .str 0))]
noncomputable def ammoniteref10_words.r4 (K : Nat)  (n : Nat) : St → Option (List (List UInt8)) := loopAt [.r, .r, .r, .l, .r, .b] ammoniteref10_words.code (ammoniteref10_words.C K) (ammoniteref10_words.ret K) [] n
noncomputable def ammoniteref10_words.l4 (K : Nat)  (n : Nat) (s0 : (List UInt8)) (out3 : (List (List UInt8))) (begin4 : Int) (i5 : Int) : Option (List (List UInt8)) := ammoniteref10_words.r4 K n (ammoniteref10_words.m4 s0 out3 begin4 i5)
theorem ammoniteref10_words.eq (K : Nat) (s0 : (List UInt8)) : ammoniteref10_words.f K (s0, ()) =
  ((ammoniteref10_words.l4 K K s0 ([] : (List (List UInt8))) (0 : Int) (0 : Int)) : Option (List (List UInt8))) := by kernel_rfl
theorem ammoniteref10_words.l4_zero (K : Nat)  (s0 : (List UInt8)) (out3 : (List (List UInt8))) (begin4 : Int) (i5 : Int) : ammoniteref10_words.l4 K 0 s0 out3 begin4 i5 = none := by kernel_rfl
theorem ammoniteref10_words.l4_succ (K : Nat)  (n : Nat) (s0 : (List UInt8)) (out3 : (List (List UInt8))) (begin4 : Int) (i5 : Int) : ammoniteref10_words.l4 K (n + 1) s0 out3 begin4 i5 =
  ((bif (decide (i5 ≤ (List.length s0 : Int))) then
    (bif (decide (i5 = (List.length s0 : Int))) then
      (chks [(decide ((0 : Int) ≤ i5)), (decide (i5 ≤ (List.length s0 : Int))), (decide ((0 : Int) ≤ begin4)), (decide (begin4 ≤ i5))]
       (chks [(growOk (List.length out3) (List.length ([(cutL s0 (some begin4) (some i5))] : List (List UInt8))) 16)]
        (ammoniteref10_words.l4 K n s0 (out3 ++ ([(cutL s0 (some begin4) (some i5))] : List (List UInt8))) (IntKind.wrap .i64 (i5 + (1 : Int))) (IntKind.wrap .i64 (i5 + (1 : Int))))))
    else
      (chks [(decide ((0 : Int) ≤ i5)), (decide (i5 < (List.length s0 : Int)))]
       (bif (decide (((List.getD s0 (Int.toNat i5) 0).toNat : Int) = (32 : Int))) then
         (chks [(decide ((0 : Int) ≤ i5)), (decide (i5 ≤ (List.length s0 : Int))), (decide ((0 : Int) ≤ begin4)), (decide (begin4 ≤ i5))]
          (chks [(growOk (List.length out3) (List.length ([(cutL s0 (some begin4) (some i5))] : List (List UInt8))) 16)]
           (ammoniteref10_words.l4 K n s0 (out3 ++ ([(cutL s0 (some begin4) (some i5))] : List (List UInt8))) (IntKind.wrap .i64 (i5 + (1 : Int))) (IntKind.wrap .i64 (i5 + (1 : Int))))))
       else
         (ammoniteref10_words.l4 K n s0 out3 begin4 (IntKind.wrap .i64 (i5 + (1 : Int)))))))
  else
    (some out3)) : Option (List (List UInt8))) := by kernel_rfl
theorem ammoniteref10_words.tbOk (K : Nat) : TbOk Try.prog (ammoniteref10_words.tb K) := by
  intro e he
  simp only [ammoniteref10_words.tb, List.mem_cons, List.not_mem_nil, or_false] at he

theorem ammoniteref10_words.itsOk : ItbOk Try.prog ammoniteref10_words.its := by
  intro e he
  simp only [ammoniteref10_words.its, List.mem_cons, List.not_mem_nil, or_false] at he

theorem ammoniteref10_words.ok (K : Nat) : PureC Try.prog 41 ⟨[.str], [(.slice .str)], ammoniteref10_words.f K⟩ :=
  fn_sound (itOk _ _) (E := ammoniteref10_words.E K) (full_ok tys_ok ammoniteref10_words.itsOk (ammoniteref10_words.tbOk K) par_ok bld_ok bty_ok) mixed Try.func41 (c := ammoniteref10_words.code) (by kernel_rfl) (by kernel_rfl) (by decide) (by kernel_rfl)
/-! ### ammonite/ammoniteref10.Cards: function 27 -/
noncomputable def ammoniteref10_Cards.tb (K : Nat) : Tb := [(41, ⟨[.str], [(.slice .str)], ammoniteref10_words.f K⟩), (7, ⟨[.str], [.str], ammoniteref1_Sum.f K⟩)]
noncomputable def ammoniteref10_Cards.its : Itb := []
noncomputable def ammoniteref10_Cards.code : Code := (Try.f27.body).getD .skip
noncomputable def ammoniteref10_Cards.nm : Nat → NormSpec := lookN [(3, ⟨[(0, (.data .str)), (4, (.vec T55)), (5, (.data (.int .i64))), (6, (.data (.int .i64)))], [], []⟩), (13, ⟨[(0, (.data .str)), (4, (.vec T55)), (5, (.data (.int .i64))), (6, (.data (.int .i64))), (8, .raw), (59, (.data (.slice .str))), (60, (.data (.int .i64))), (61, (.data (.int .i64)))], [(8, [(.data (.int .u8)), (.data (.slice .str))])], []⟩)]
noncomputable def ammoniteref10_Cards.pre : Nat → Option NormSpec := lookP [(9, ⟨[(0, (.data .str)), (4, (.vec T55)), (5, (.data (.int .i64))), (6, (.data (.int .i64))), (7, (.data .str))], [], []⟩)]
noncomputable def ammoniteref10_Cards.E (K : Nat) : Env := ⟨lookR tys, bty, fullCall ammoniteref10_Cards.its (ammoniteref10_Cards.tb K) bids⟩
noncomputable def ammoniteref10_Cards.ret (K : Nat) : St → Option (resT [(.slice T55), .bool]).den := retA (ammoniteref10_Cards.E K) [(.slice T55), .bool] [(.tmp 2), (.tmp 3)]
noncomputable def ammoniteref10_Cards.C (K : Nat) : CEnv (resT [(.slice T55), .bool]).den := ⟨ammoniteref10_Cards.E K, 121, K, ammoniteref10_Cards.nm, ammoniteref10_Cards.ret K, [], fun _ => false, ammoniteref10_Cards.pre, lookG [(9, 0)]⟩
noncomputable def ammoniteref10_Cards.f (K : Nat) (x : (prodT [.str]).den) : Option (resT [(.slice T55), .bool]).den := exec ammoniteref10_Cards.code (ammoniteref10_Cards.C K) (ammoniteref10_Cards.ret K) (init [.str] x)
noncomputable def ammoniteref10_Cards.m3 (s0 : (List UInt8)) (out4 : (List D55)) (at5 : Int) (begin6 : Int) : St := mkSt [(0, (.d .str (s0 : (List UInt8)))), (4, (.vs 4 0 T55 (out4 : List D55))), (5, (.d (.int .i64) (at5 : Int))), (6, (.d (.int .i64) (begin6 : Int)))] [(4, (.vec T55 0))]
noncomputable def ammoniteref10_Cards.r3 (K : Nat)  (n : Nat) : St → Option ((List D55) × Bool × Unit) := loopAt [.r, .r, .r, .l, .b] ammoniteref10_Cards.code (ammoniteref10_Cards.C K) (ammoniteref10_Cards.ret K) [] n
noncomputable def ammoniteref10_Cards.l3 (K : Nat)  (n : Nat) (s0 : (List UInt8)) (out4 : (List D55)) (at5 : Int) (begin6 : Int) : Option ((List D55) × Bool × Unit) := ammoniteref10_Cards.r3 K n (ammoniteref10_Cards.m3 s0 out4 at5 begin6)
noncomputable def ammoniteref10_Cards.m13 (s0 : (List UInt8)) (out4 : (List D55)) (at5 : Int) (begin6 : Int) (t59 : (List (List UInt8))) (t60 : Int) (t61 : Int) (bc8_0 : Int) (bc8_1 : (List (List UInt8))) : St := mkSt [(0, (.d .str (s0 : (List UInt8)))), (4, (.vs 4 0 T55 (out4 : List D55))), (5, (.d (.int .i64) (at5 : Int))), (6, (.d (.int .i64) (begin6 : Int))), (8, (.ptr 8 0)), (59, (.d (.slice .str) (t59 : (List (List UInt8))))), (60, (.d (.int .i64) (t60 : Int))), (61, (.d (.int .i64) (t61 : Int)))] [(4, (.vec T55 0)), (8, (.box [(.d (.int .u8) (bc8_0 : Int)), (.d (.slice .str) (bc8_1 : (List (List UInt8))))]))]
noncomputable def ammoniteref10_Cards.r13 (K : Nat) (ρ3 : St → Option ((List D55) × Bool × Unit)) (n : Nat) : St → Option ((List D55) × Bool × Unit) := loopAt [.r, .r, .r, .l, .b, .o, .r, .b, .r, .r, .r, .r, .r, .l, .r, .b] ammoniteref10_Cards.code (ammoniteref10_Cards.C K) (ammoniteref10_Cards.ret K) [ρ3] n
noncomputable def ammoniteref10_Cards.l13 (K : Nat) (ρ3 : St → Option ((List D55) × Bool × Unit)) (n : Nat) (s0 : (List UInt8)) (out4 : (List D55)) (at5 : Int) (begin6 : Int) (t59 : (List (List UInt8))) (t60 : Int) (t61 : Int) (bc8_0 : Int) (bc8_1 : (List (List UInt8))) : Option ((List D55) × Bool × Unit) := ammoniteref10_Cards.r13 K ρ3 n (ammoniteref10_Cards.m13 s0 out4 at5 begin6 t59 t60 t61 bc8_0 bc8_1)
noncomputable def ammoniteref10_Cards.mj9 (s0 : (List UInt8)) (out4 : (List D55)) (at5 : Int) (begin6 : Int) (line7 : (List UInt8)) : St := mkSt [(0, (.d .str (s0 : (List UInt8)))), (4, (.vs 4 0 T55 (out4 : List D55))), (5, (.d (.int .i64) (at5 : Int))), (6, (.d (.int .i64) (begin6 : Int))), (7, (.d .str (line7 : (List UInt8))))] [(4, (.vec T55 0))]
noncomputable def ammoniteref10_Cards.j9 (K : Nat) (ρ3 : St → Option ((List D55) × Bool × Unit)) (s0 : (List UInt8)) (out4 : (List D55)) (at5 : Int) (begin6 : Int) (line7 : (List UInt8)) : Option ((List D55) × Bool × Unit) := pointAt [.r, .r, .r, .l, .b, .o, .r, .b, .r, .r, .r, .l] ammoniteref10_Cards.code (ammoniteref10_Cards.C K) (ammoniteref10_Cards.ret K) [ρ3] (ammoniteref10_Cards.mj9 s0 out4 at5 begin6 line7)
theorem ammoniteref10_Cards.eq (K : Nat) (s0 : (List UInt8)) : ammoniteref10_Cards.f K (s0, ()) =
  ((ammoniteref10_Cards.l3 K K s0 ([] : (List D55)) (0 : Int) (0 : Int)) : Option ((List D55) × Bool × Unit)) := by kernel_rfl
theorem ammoniteref10_Cards.l3_zero (K : Nat)  (s0 : (List UInt8)) (out4 : (List D55)) (at5 : Int) (begin6 : Int) : ammoniteref10_Cards.l3 K 0 s0 out4 at5 begin6 = none := by kernel_rfl
theorem ammoniteref10_Cards.l3_succ (K : Nat)  (n : Nat) (s0 : (List UInt8)) (out4 : (List D55)) (at5 : Int) (begin6 : Int) : ammoniteref10_Cards.l3 K (n + 1) s0 out4 at5 begin6 =
  ((bif (decide (at5 < (List.length s0 : Int))) then
    (chks [(decide ((0 : Int) ≤ at5)), (decide (at5 < (List.length s0 : Int)))]
     (bif (!(decide (((List.getD s0 (Int.toNat at5) 0).toNat : Int) = (10 : Int)))) then
       (ammoniteref10_Cards.l3 K n s0 out4 (IntKind.wrap .i64 (at5 + (1 : Int))) begin6)
     else
       (chks [(decide ((0 : Int) ≤ at5)), (decide (at5 ≤ (List.length s0 : Int))), (decide ((0 : Int) ≤ begin6)), (decide (begin6 ≤ at5))]
        (bif (decide ((List.length (cutL s0 (some begin6) (some at5)) : Int) < (1 : Int))) then
          (some (([] : (List D55)), false, ()))
        else
          (chks [(decide ((0 : Int) < (List.length (cutL s0 (some begin6) (some at5)) : Int)))]
           (bif (decide (((List.getD (cutL s0 (some begin6) (some at5)) (Int.toNat (0 : Int)) 0).toNat : Int) < (65 : Int))) then
             (some (([] : (List D55)), false, ()))
           else
             (chks [(decide ((0 : Int) < (List.length (cutL s0 (some begin6) (some at5)) : Int)))]
              (bif (decide ((90 : Int) < ((List.getD (cutL s0 (some begin6) (some at5)) (Int.toNat (0 : Int)) 0).toNat : Int))) then
                (some (([] : (List D55)), false, ()))
              else
                (bif (decide ((1 : Int) < (List.length (cutL s0 (some begin6) (some at5)) : Int))) then
                  (chks [(decide ((1 : Int) < (List.length (cutL s0 (some begin6) (some at5)) : Int)))]
                   (bif (!(decide (((List.getD (cutL s0 (some begin6) (some at5)) (Int.toNat (1 : Int)) 0).toNat : Int) = (32 : Int)))) then
                     (some (([] : (List D55)), false, ()))
                   else
                     (ammoniteref10_Cards.j9 K (ammoniteref10_Cards.r3 K n) s0 out4 at5 begin6 (cutL s0 (some begin6) (some at5)))))
                else
                  (ammoniteref10_Cards.j9 K (ammoniteref10_Cards.r3 K n) s0 out4 at5 begin6 (cutL s0 (some begin6) (some at5))))))))))))
  else
    (some (([] : (List D55)), false, ()))) : Option ((List D55) × Bool × Unit)) := by kernel_rfl
theorem ammoniteref10_Cards.l13_zero (K : Nat) (ρ3 : St → Option ((List D55) × Bool × Unit)) (s0 : (List UInt8)) (out4 : (List D55)) (at5 : Int) (begin6 : Int) (t59 : (List (List UInt8))) (t60 : Int) (t61 : Int) (bc8_0 : Int) (bc8_1 : (List (List UInt8))) : ammoniteref10_Cards.l13 K ρ3 0 s0 out4 at5 begin6 t59 t60 t61 bc8_0 bc8_1 = none := by kernel_rfl
theorem ammoniteref10_Cards.l13_succ (K : Nat) (ρ3 : St → Option ((List D55) × Bool × Unit)) (n : Nat) (s0 : (List UInt8)) (out4 : (List D55)) (at5 : Int) (begin6 : Int) (t59 : (List (List UInt8))) (t60 : Int) (t61 : Int) (bc8_0 : Int) (bc8_1 : (List (List UInt8))) : ammoniteref10_Cards.l13 K ρ3 (n + 1) s0 out4 at5 begin6 t59 t60 t61 bc8_0 bc8_1 =
  ((bif (decide (t61 < t60)) then
    (chks [(decide ((0 : Int) ≤ t61)), (decide (t61 < (List.length t59 : Int)))]
     (bif (decide ((List.getD t59 (Int.toNat t61) (DTy.dflt .str)) = ([] : List UInt8))) then
       (some (([] : (List D55)), false, ()))
     else
       (ammoniteref10_Cards.l13 K ρ3 n s0 out4 at5 begin6 t59 t60 (IntKind.wrap .i64 (t61 + (1 : Int))) bc8_0 bc8_1)))
  else
    (bif (decide (bc8_0 = (90 : Int))) then
      (bif (!(decide ((IntKind.wrap .i64 (at5 + (1 : Int))) = (List.length s0 : Int)))) then
        (some (([] : (List D55)), false, ()))
      else
        (bif (!(decide ((List.length bc8_1 : Int) = (1 : Int)))) then
          (some (([] : (List D55)), false, ()))
        else
          (chks [(decide ((0 : Int) < (List.length bc8_1 : Int)))]
           (chks [(decide ((0 : Int) ≤ begin6)), (decide (begin6 ≤ (List.length s0 : Int)))]
            ((ammoniteref1_Sum.f K ((cutL s0 none (some begin6)), ())).bind fun v_1 =>
             (bif (!(decide ((List.getD bc8_1 (Int.toNat (0 : Int)) (DTy.dflt .str)) = v_1))) then
               (some (([] : (List D55)), false, ()))
             else
               (bif (decide ((List.length out4 : Int) = (0 : Int))) then
                 (some (([] : (List D55)), false, ()))
               else
                 (some (out4, true, ())))))))))
    else
      (bif (decide ((0 : Int) < (List.length out4 : Int))) then
        (chks [(decide ((0 : Int) ≤ (IntKind.wrap .i64 ((List.length out4 : Int) - (1 : Int))))), (decide ((IntKind.wrap .i64 ((List.length out4 : Int) - (1 : Int))) < (List.length out4 : Int)))]
         (bif (decide (bc8_0 < (List.getD out4 (Int.toNat (IntKind.wrap .i64 ((List.length out4 : Int) - (1 : Int)))) (DTy.dflt T55)).1)) then
           (some (([] : (List D55)), false, ()))
         else
           (chks [(growOk (List.length out4) (List.length ([(bc8_0, (bc8_1, ()))] : List D55)) 32)]
            (ρ3 (ammoniteref10_Cards.m3 s0 (out4 ++ ([(bc8_0, (bc8_1, ()))] : List D55)) (IntKind.wrap .i64 (at5 + (1 : Int))) (IntKind.wrap .i64 (at5 + (1 : Int))))))))
      else
        (chks [(growOk (List.length out4) (List.length ([(bc8_0, (bc8_1, ()))] : List D55)) 32)]
         (ρ3 (ammoniteref10_Cards.m3 s0 (out4 ++ ([(bc8_0, (bc8_1, ()))] : List D55)) (IntKind.wrap .i64 (at5 + (1 : Int))) (IntKind.wrap .i64 (at5 + (1 : Int))))))))) : Option ((List D55) × Bool × Unit)) := by kernel_rfl
theorem ammoniteref10_Cards.j9_eq {K : Nat} (hK : 1000 ≤ K) (ρ3 : St → Option ((List D55) × Bool × Unit)) (s0 : (List UInt8)) (out4 : (List D55)) (at5 : Int) (begin6 : Int) (line7 : (List UInt8)) : ammoniteref10_Cards.j9 K ρ3 s0 out4 at5 begin6 line7 =
  ((chks [(decide ((0 : Int) < (List.length line7 : Int)))]
   (bif (decide ((1 : Int) < (List.length line7 : Int))) then
     (chks [(decide ((2 : Int) ≤ (List.length line7 : Int)))]
      ((ammoniteref10_words.f K ((cutL line7 (some (2 : Int)) none), ())).bind fun v_1 =>
       (ammoniteref10_Cards.l13 K ρ3 K s0 out4 at5 begin6 v_1 (List.length v_1 : Int) (0 : Int) ((List.getD line7 (Int.toNat (0 : Int)) 0).toNat : Int) v_1)))
   else
     (ammoniteref10_Cards.l13 K ρ3 K s0 out4 at5 begin6 ([] : (List (List UInt8))) (List.length ([] : (List (List UInt8))) : Int) (0 : Int) ((List.getD line7 (Int.toNat (0 : Int)) 0).toNat : Int) ([] : (List (List UInt8)))))) : Option ((List D55) × Bool × Unit)) := by
  obtain ⟨K, rfl⟩ : ∃ m, K = m + 1 := ⟨K - 1, by omega⟩
  kernel_rfl
theorem ammoniteref10_Cards.tbOk (K : Nat) : TbOk Try.prog (ammoniteref10_Cards.tb K) := by
  intro e he
  simp only [ammoniteref10_Cards.tb, List.mem_cons, List.not_mem_nil, or_false] at he
  rcases he with rfl | rfl
  · exact ⟨ammoniteref10_words.ok K, enters_of Try.func41 (by kernel_rfl) rfl⟩
  · exact ⟨ammoniteref1_Sum.ok K, enters_of Try.func7 (by kernel_rfl) rfl⟩

theorem ammoniteref10_Cards.itsOk : ItbOk Try.prog ammoniteref10_Cards.its := by
  intro e he
  simp only [ammoniteref10_Cards.its, List.mem_cons, List.not_mem_nil, or_false] at he

theorem ammoniteref10_Cards.ok (K : Nat) : PureC Try.prog 27 ⟨[.str], [(.slice T55), .bool], ammoniteref10_Cards.f K⟩ :=
  fn_sound (itOk _ _) (E := ammoniteref10_Cards.E K) (full_ok tys_ok ammoniteref10_Cards.itsOk (ammoniteref10_Cards.tbOk K) par_ok bld_ok bty_ok) mixed Try.func27 (c := ammoniteref10_Cards.code) (by kernel_rfl) (by kernel_rfl) (by decide) (by kernel_rfl)
end Go.Proofs.Ytgmjbnglenmlpaa.Ab
