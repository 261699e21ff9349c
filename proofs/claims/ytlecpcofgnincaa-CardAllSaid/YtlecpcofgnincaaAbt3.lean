import Derived.Test.YtlecpcofgnincaaAbE
import Derived.Test.YtlecpcofgnincaaProg
set_option linter.unusedVariables false
set_option linter.unusedSimpArgs false
set_option maxRecDepth 100000
namespace Go.Proofs.Ytlecpcofgnincaa.Ab
open Go Go.RowKit Go.Proofs
/-- ammonite/ammonitelaw11.Given -/
abbrev T66 : DTy := (.prod (.int .u8) (.prod (.slice .str) .unit))
abbrev D66 : Type := (Int × ((List (List UInt8)) × Unit))
/-- ammonite/ammoniteref10.Card -/
abbrev T35 : DTy := (.prod (.int .u8) (.prod (.slice .str) .unit))
abbrev D35 : Type := (Int × ((List (List UInt8)) × Unit))
/-- ammonite/card.Card -/
abbrev T25 : DTy := (.prod (.int .u8) (.prod (.slice .str) .unit))
abbrev D25 : Type := (Int × ((List (List UInt8)) × Unit))
def tys : List (Nat × TyRow) := [
  (3, ⟨(.int .i64), 1, 8, some (.int .i64), [(.d (.int .i64) (0 : Int))]⟩),
  (4, ⟨.bool, 1, 1, some .bool, [(.d .bool (false : Bool))]⟩),
  (5, ⟨(.int .u8), 1, 1, some (.int .u8), [(.d (.int .u8) (0 : Int))]⟩),
  (9, ⟨.str, 1, 16, some .str, [(.d .str ([] : (List UInt8)))]⟩),
  (23, ⟨(.slice 9), 1, 24, some (.slice .str), [.nils]⟩),
  (25, ⟨(.struct [(5, 0), (23, 1)]), 2, 32, some T25, [(.d (.int .u8) (0 : Int)), .nils]⟩),
  (26, ⟨(.slice 25), 1, 24, some (.slice T25), [.nils]⟩),
  (32, ⟨(.slice 66), 1, 24, some (.slice T25), [.nils]⟩),
  (34, ⟨(.slice 35), 1, 24, some (.slice T25), [.nils]⟩),
  (35, ⟨(.struct [(5, 0), (23, 1)]), 2, 32, some T25, [(.d (.int .u8) (0 : Int)), .nils]⟩),
  (45, ⟨(.slice 5), 1, 24, some (.slice (.int .u8)), [.nils]⟩),
  (51, ⟨(.ptr 53), 1, 8, none, [.nilp]⟩),
  (53, ⟨(.struct [(51, 0), (45, 1)]), 2, 32, none, [.nilp, .nils]⟩),
  (66, ⟨(.struct [(5, 0), (23, 1)]), 2, 32, some T25, [(.d (.int .u8) (0 : Int)), .nils]⟩)]
theorem tys_ok : ∀ e ∈ tys, RowOk Try.prog (lookR tys) e.1 e.2 := by
  intro e he
  simp only [tys, List.mem_cons, List.not_mem_nil, or_false] at he
  rcases he with rfl | rfl | rfl | rfl | rfl | rfl | rfl | rfl | rfl | rfl | rfl | rfl | rfl | rfl
  all_goals exact ⟨by kernel_rfl, by kernel_rfl, by kernel_rfl⟩
/-! ### ammonite/card.Right: function 12 -/
noncomputable def card_Right.tb (K : Nat) : Tb := [(26, ⟨[.str, .str], [.bool], strings_Contains.f K⟩)]
noncomputable def card_Right.its : Itb := []
noncomputable def card_Right.code : Code := (Try.f12.body).getD .skip
noncomputable def card_Right.nm : Nat → NormSpec := lookN [(2, ⟨[(0, (.data (.slice T25))), (7, (.data (.slice T25))), (8, (.data (.int .i64))), (9, (.data (.int .i64)))], [], []⟩), (7, ⟨[(0, (.data (.slice T25))), (7, (.data (.slice T25))), (8, (.data (.int .i64))), (9, (.data (.int .i64))), (38, (.data (.slice .str))), (39, (.data (.int .i64))), (40, (.data (.int .i64)))], [], []⟩)]
noncomputable def card_Right.pre : Nat → Option NormSpec := lookP []
noncomputable def card_Right.E (K : Nat) : Env := ⟨lookR tys, bty, fullCall card_Right.its (card_Right.tb K) bids⟩
noncomputable def card_Right.ret (K : Nat) : St → Option (resT [.bool]).den := retA (card_Right.E K) [.bool] [(.tmp 2)]
noncomputable def card_Right.C (K : Nat) : CEnv (resT [.bool]).den := ⟨card_Right.E K, 59, K, card_Right.nm, card_Right.ret K, [], fun _ => false, card_Right.pre⟩
noncomputable def card_Right.f (K : Nat) (x : (prodT [(.slice T25)]).den) : Option (resT [.bool]).den := exec card_Right.code (card_Right.C K) (card_Right.ret K) (init [(.slice T25)] x)
noncomputable def card_Right.m2 (l0 : (List D25)) (t7 : (List D25)) (t8 : Int) (t9 : Int) : St := mkSt [(0, (.d (.slice T25) (l0 : (List D25)))), (7, (.d (.slice T25) (t7 : (List D25)))), (8, (.d (.int .i64) (t8 : Int))), (9, (.d (.int .i64) (t9 : Int)))] []
noncomputable def card_Right.r2 (K : Nat)  (n : Nat) : St → Option Bool := loopAt [.r, .l, .r, .b] card_Right.code (card_Right.C K) (card_Right.ret K) [] n
noncomputable def card_Right.l2 (K : Nat)  (n : Nat) (l0 : (List D25)) (t7 : (List D25)) (t8 : Int) (t9 : Int) : Option Bool := card_Right.r2 K n (card_Right.m2 l0 t7 t8 t9)
noncomputable def card_Right.m7 (l0 : (List D25)) (t7 : (List D25)) (t8 : Int) (t9 : Int) (t38 : (List (List UInt8))) (t39 : Int) (t40 : Int) : St := mkSt [(0, (.d (.slice T25) (l0 : (List D25)))), (7, (.d (.slice T25) (t7 : (List D25)))), (8, (.d (.int .i64) (t8 : Int))), (9, (.d (.int .i64) (t9 : Int))), (38, (.d (.slice .str) (t38 : (List (List UInt8))))), (39, (.d (.int .i64) (t39 : Int))), (40, (.d (.int .i64) (t40 : Int)))] []
noncomputable def card_Right.r7 (K : Nat) (ρ2 : St → Option Bool) (n : Nat) : St → Option Bool := loopAt [.r, .l, .r, .b, .o, .r, .r, .l, .b, .r, .r, .r, .b] card_Right.code (card_Right.C K) (card_Right.ret K) [ρ2] n
noncomputable def card_Right.l7 (K : Nat) (ρ2 : St → Option Bool) (n : Nat) (l0 : (List D25)) (t7 : (List D25)) (t8 : Int) (t9 : Int) (t38 : (List (List UInt8))) (t39 : Int) (t40 : Int) : Option Bool := card_Right.r7 K ρ2 n (card_Right.m7 l0 t7 t8 t9 t38 t39 t40)
theorem card_Right.eq (K : Nat) (l0 : (List D25)) : card_Right.f K (l0, ()) =
  ((card_Right.l2 K K l0 l0 (List.length l0 : Int) (0 : Int)) : Option Bool) := by kernel_rfl
theorem card_Right.l2_zero (K : Nat)  (l0 : (List D25)) (t7 : (List D25)) (t8 : Int) (t9 : Int) : card_Right.l2 K 0 l0 t7 t8 t9 = none := by kernel_rfl
theorem card_Right.l2_succ (K : Nat)  (n : Nat) (l0 : (List D25)) (t7 : (List D25)) (t8 : Int) (t9 : Int) : card_Right.l2 K (n + 1) l0 t7 t8 t9 =
  ((bif (decide (t9 < t8)) then
    (chks [(decide ((0 : Int) ≤ t9)), (decide (t9 < (List.length t7 : Int)))]
     (bif (decide ((List.getD t7 (Int.toNat t9) (DTy.dflt T25)).1 < (65 : Int))) then
       (some false)
     else
       (bif (decide ((89 : Int) < (List.getD t7 (Int.toNat t9) (DTy.dflt T25)).1)) then
         (some false)
       else
         (bif (decide ((0 : Int) < t9)) then
           (chks [(decide ((0 : Int) ≤ (IntKind.wrap .i64 (t9 - (1 : Int))))), (decide ((IntKind.wrap .i64 (t9 - (1 : Int))) < (List.length l0 : Int)))]
            (bif (decide ((List.getD t7 (Int.toNat t9) (DTy.dflt T25)).1 < (List.getD l0 (Int.toNat (IntKind.wrap .i64 (t9 - (1 : Int)))) (DTy.dflt T25)).1)) then
              (some false)
            else
              (card_Right.l7 K (card_Right.r2 K n) K l0 t7 t8 t9 (List.getD t7 (Int.toNat t9) (DTy.dflt T25)).2.1 (List.length (List.getD t7 (Int.toNat t9) (DTy.dflt T25)).2.1 : Int) (0 : Int))))
         else
           (card_Right.l7 K (card_Right.r2 K n) K l0 t7 t8 t9 (List.getD t7 (Int.toNat t9) (DTy.dflt T25)).2.1 (List.length (List.getD t7 (Int.toNat t9) (DTy.dflt T25)).2.1 : Int) (0 : Int))))))
  else
    (some (decide ((0 : Int) < (List.length l0 : Int))))) : Option Bool) := by kernel_rfl
theorem card_Right.l7_zero (K : Nat) (ρ2 : St → Option Bool) (l0 : (List D25)) (t7 : (List D25)) (t8 : Int) (t9 : Int) (t38 : (List (List UInt8))) (t39 : Int) (t40 : Int) : card_Right.l7 K ρ2 0 l0 t7 t8 t9 t38 t39 t40 = none := by kernel_rfl
theorem card_Right.l7_succ (K : Nat) (ρ2 : St → Option Bool) (n : Nat) (l0 : (List D25)) (t7 : (List D25)) (t8 : Int) (t9 : Int) (t38 : (List (List UInt8))) (t39 : Int) (t40 : Int) : card_Right.l7 K ρ2 (n + 1) l0 t7 t8 t9 t38 t39 t40 =
  ((bif (decide (t40 < t39)) then
    (chks [(decide ((0 : Int) ≤ t40)), (decide (t40 < (List.length t38 : Int)))]
     (bif (decide ((List.getD t38 (Int.toNat t40) (DTy.dflt .str)) = ([] : List UInt8))) then
       (some false)
     else
       ((strings_Contains.f K ((List.getD t38 (Int.toNat t40) (DTy.dflt .str)), ([32] : List UInt8), ())).bind fun v_1 =>
        (bif v_1 then
          (some false)
        else
          ((strings_Contains.f K ((List.getD t38 (Int.toNat t40) (DTy.dflt .str)), ([10] : List UInt8), ())).bind fun v_2 =>
           (bif v_2 then
             (some false)
           else
             (card_Right.l7 K ρ2 n l0 t7 t8 t9 t38 t39 (IntKind.wrap .i64 (t40 + (1 : Int))))))))))
  else
    (ρ2 (card_Right.m2 l0 t7 t8 (IntKind.wrap .i64 (t9 + (1 : Int)))))) : Option Bool) := by kernel_rfl
theorem card_Right.tbOk (K : Nat) : TbOk Try.prog (card_Right.tb K) := by
  intro e he
  simp only [card_Right.tb, List.mem_cons, List.not_mem_nil, or_false] at he
  rcases he with rfl
  · exact ⟨strings_Contains.ok K, enters_of Try.func26 (by kernel_rfl) rfl⟩

theorem card_Right.itsOk : ItbOk Try.prog card_Right.its := by
  intro e he
  simp only [card_Right.its, List.mem_cons, List.not_mem_nil, or_false] at he

theorem card_Right.ok (K : Nat) : PureC Try.prog 12 ⟨[(.slice T25)], [.bool], card_Right.f K⟩ :=
  fn_sound (itOk _ _) (E := card_Right.E K) (full_ok tys_ok card_Right.itsOk (card_Right.tbOk K) par_ok bld_ok bty_ok) mixed Try.func12 (c := card_Right.code) (by kernel_rfl) (by kernel_rfl) (by decide) (by kernel_rfl)
/-! ### ammonite/card.sealed: function 21 -/
noncomputable def card_sealed.tb (K : Nat) : Tb := [(32, ⟨[.str], [.str], hash_Sum.f K⟩)]
noncomputable def card_sealed.its : Itb := []
noncomputable def card_sealed.code : Code := (Try.f21.body).getD .skip
noncomputable def card_sealed.nm : Nat → NormSpec := lookN []
noncomputable def card_sealed.pre : Nat → Option NormSpec := lookP []
noncomputable def card_sealed.E (K : Nat) : Env := ⟨lookR tys, bty, fullCall card_sealed.its (card_sealed.tb K) bids⟩
noncomputable def card_sealed.ret (K : Nat) : St → Option (resT [.str]).den := retA (card_sealed.E K) [.str] [(.tmp 2)]
noncomputable def card_sealed.C (K : Nat) : CEnv (resT [.str]).den := ⟨card_sealed.E K, 9, K, card_sealed.nm, card_sealed.ret K, [], fun _ => false, card_sealed.pre⟩
noncomputable def card_sealed.f (K : Nat) (x : (prodT [.str]).den) : Option (resT [.str]).den := exec card_sealed.code (card_sealed.C K) (card_sealed.ret K) (init [.str] x)
theorem card_sealed.eq (K : Nat) (s0 : (List UInt8)) : card_sealed.f K (s0, ()) =
  ((chks [(catOk s0 ([90, 32] : List UInt8))]
   ((hash_Sum.f K (s0, ())).bind fun v_1 =>
    (chks [(catOk (s0 ++ ([90, 32] : List UInt8)) v_1)]
     (chks [(catOk ((s0 ++ ([90, 32] : List UInt8)) ++ v_1) ([10] : List UInt8))]
      (some (((s0 ++ ([90, 32] : List UInt8)) ++ v_1) ++ ([10] : List UInt8))))))) : Option (List UInt8)) := by kernel_rfl
theorem card_sealed.tbOk (K : Nat) : TbOk Try.prog (card_sealed.tb K) := by
  intro e he
  simp only [card_sealed.tb, List.mem_cons, List.not_mem_nil, or_false] at he
  rcases he with rfl
  · exact ⟨hash_Sum.ok K, enters_of Try.func32 (by kernel_rfl) rfl⟩

theorem card_sealed.itsOk : ItbOk Try.prog card_sealed.its := by
  intro e he
  simp only [card_sealed.its, List.mem_cons, List.not_mem_nil, or_false] at he

theorem card_sealed.ok (K : Nat) : PureC Try.prog 21 ⟨[.str], [.str], card_sealed.f K⟩ :=
  fn_sound (itOk _ _) (E := card_sealed.E K) (full_ok tys_ok card_sealed.itsOk (card_sealed.tbOk K) par_ok bld_ok bty_ok) mixed Try.func21 (c := card_sealed.code) (by kernel_rfl) (by kernel_rfl) (by decide) (by kernel_rfl)
/-! ### ammonite/card.Print: function 8 -/
noncomputable def card_Print.tb (K : Nat) : Tb := [(12, ⟨[(.slice T25)], [.bool], card_Right.f K⟩), (20, ⟨[(.slice .str), .str], [.str], strings_Join.f K⟩), (21, ⟨[.str], [.str], card_sealed.f K⟩)]
noncomputable def card_Print.its : Itb := []
noncomputable def card_Print.code : Code := (Try.f8.body).getD .skip
noncomputable def card_Print.nm : Nat → NormSpec := lookN [(5, ⟨[(3, .raw), (9, (.data (.slice T25))), (10, (.data (.int .i64))), (11, (.data (.int .i64)))], [], [3]⟩)]
noncomputable def card_Print.pre : Nat → Option NormSpec := lookP []
noncomputable def card_Print.E (K : Nat) : Env := ⟨lookR tys, bty, fullCall card_Print.its (card_Print.tb K) bids⟩
noncomputable def card_Print.ret (K : Nat) : St → Option (resT [.str]).den := retA (card_Print.E K) [.str] [(.tmp 2)]
noncomputable def card_Print.C (K : Nat) : CEnv (resT [.str]).den := ⟨card_Print.E K, 29, K, card_Print.nm, card_Print.ret K, [], fun _ => false, card_Print.pre⟩
noncomputable def card_Print.f (K : Nat) (x : (prodT [(.slice T25)]).den) : Option (resT [.str]).den := exec card_Print.code (card_Print.C K) (card_Print.ret K) (init [(.slice T25)] x)
noncomputable def card_Print.m5 (t9 : (List D25)) (t10 : Int) (t11 : Int) (k3 : (List UInt8)) : St := mkSt [(3, (.ptr 3 0)), (9, (.d (.slice T25) (t9 : (List D25)))), (10, (.d (.int .i64) (t10 : Int))), (11, (.d (.int .i64) (t11 : Int)))] [(3, (.bld k3))]
noncomputable def card_Print.r5 (K : Nat)  (n : Nat) : St → Option (List UInt8) := loopAt [.r, .r, .r, .l, .r, .b] card_Print.code (card_Print.C K) (card_Print.ret K) [] n
noncomputable def card_Print.l5 (K : Nat)  (n : Nat) (t9 : (List D25)) (t10 : Int) (t11 : Int) (k3 : (List UInt8)) : Option (List UInt8) := card_Print.r5 K n (card_Print.m5 t9 t10 t11 k3)
theorem card_Print.eq (K : Nat) (l0 : (List D25)) : card_Print.f K (l0, ()) =
  (((card_Right.f K (l0, ())).bind fun v_1 =>
   (bif (!v_1) then
     (some ([] : List UInt8))
   else
     (card_Print.l5 K K l0 (List.length l0 : Int) (0 : Int) ([] : List UInt8)))) : Option (List UInt8)) := by kernel_rfl
theorem card_Print.l5_zero (K : Nat)  (t9 : (List D25)) (t10 : Int) (t11 : Int) (k3 : (List UInt8)) : card_Print.l5 K 0 t9 t10 t11 k3 = none := by kernel_rfl
theorem card_Print.l5_succ (K : Nat)  (n : Nat) (t9 : (List D25)) (t10 : Int) (t11 : Int) (k3 : (List UInt8)) : card_Print.l5 K (n + 1) t9 t10 t11 k3 =
  ((bif (decide (t11 < t10)) then
    (chks [(decide ((0 : Int) ≤ t11)), (decide (t11 < (List.length t9 : Int)))]
     (chks [(growOk (List.length ([(textOf ([(List.getD t9 (Int.toNat t11) (DTy.dflt T25)).1] : List Int))] : List (List UInt8))) (List.length (List.getD t9 (Int.toNat t11) (DTy.dflt T25)).2.1) 16)]
      ((strings_Join.f K ((([(textOf ([(List.getD t9 (Int.toNat t11) (DTy.dflt T25)).1] : List Int))] : List (List UInt8)) ++ (List.getD t9 (Int.toNat t11) (DTy.dflt T25)).2.1), ([32] : List UInt8), ())).bind fun v_1 =>
       (chks [(catOk v_1 ([10] : List UInt8))]
        (chks [(bldOk k3 (v_1 ++ ([10] : List UInt8)))]
         (card_Print.l5 K n t9 t10 (IntKind.wrap .i64 (t11 + (1 : Int))) (k3 ++ (v_1 ++ ([10] : List UInt8)))))))))
  else
    ((card_sealed.f K (k3, ())).bind fun v_2 =>
     (some v_2))) : Option (List UInt8)) := by kernel_rfl
theorem card_Print.tbOk (K : Nat) : TbOk Try.prog (card_Print.tb K) := by
  intro e he
  simp only [card_Print.tb, List.mem_cons, List.not_mem_nil, or_false] at he
  rcases he with rfl | rfl | rfl
  · exact ⟨card_Right.ok K, enters_of Try.func12 (by kernel_rfl) rfl⟩
  · exact ⟨strings_Join.ok K, enters_of Try.func20 (by kernel_rfl) rfl⟩
  · exact ⟨card_sealed.ok K, enters_of Try.func21 (by kernel_rfl) rfl⟩

theorem card_Print.itsOk : ItbOk Try.prog card_Print.its := by
  intro e he
  simp only [card_Print.its, List.mem_cons, List.not_mem_nil, or_false] at he

theorem card_Print.ok (K : Nat) : PureC Try.prog 8 ⟨[(.slice T25)], [.str], card_Print.f K⟩ :=
  fn_sound (itOk _ _) (E := card_Print.E K) (full_ok tys_ok card_Print.itsOk (card_Print.tbOk K) par_ok bld_ok bty_ok) mixed Try.func8 (c := card_Print.code) (by kernel_rfl) (by kernel_rfl) (by decide) (by kernel_rfl)
/-! ### ammonite/card.Read: function 9 -/
noncomputable def card_Read.tb (K : Nat) : Tb := [(21, ⟨[.str], [.str], card_sealed.f K⟩), (23, ⟨[.str, .str], [.str, .str, .bool], strings_Cut.f K⟩), (8, ⟨[(.slice T25)], [.str], card_Print.f K⟩)]
noncomputable def card_Read.its : Itb := [(24, ⟨[.str], (.prod .str .unit), escape_Words.L⟩)]
noncomputable def card_Read.code : Code := (Try.f9.body).getD .skip
noncomputable def card_Read.nm : Nat → NormSpec := lookN [(5, ⟨[(0, (.data .str)), (2, (.vec T25)), (3, (.data .bool)), (4, (.vec T25)), (5, (.data .str))], [], []⟩), (10, ⟨[(0, (.data .str)), (2, (.vec T25)), (3, (.data .bool)), (4, (.vec T25)), (5, (.data .str)), (7, (.data .str)), (9, .raw)], [(9, [(.data (.int .u8)), (.vec .str)])], []⟩)]
noncomputable def card_Read.pre : Nat → Option NormSpec := lookP []
noncomputable def card_Read.E (K : Nat) : Env := ⟨lookR tys, bty, fullCall card_Read.its (card_Read.tb K) bids⟩
noncomputable def card_Read.ret (K : Nat) : St → Option (resT [(.slice T25), .bool]).den := retA (card_Read.E K) [(.slice T25), .bool] [(.tmp 2), (.tmp 3)]
noncomputable def card_Read.C (K : Nat) : CEnv (resT [(.slice T25), .bool]).den := ⟨card_Read.E K, 73, K, card_Read.nm, card_Read.ret K, [], fun _ => false, card_Read.pre⟩
noncomputable def card_Read.f (K : Nat) (x : (prodT [.str]).den) : Option (resT [(.slice T25), .bool]).den := exec card_Read.code (card_Read.C K) (card_Read.ret K) (init [.str] x)
noncomputable def card_Read.m5 (s0 : (List UInt8)) (t2 : (List D25)) (t3 : Bool) (out4 : (List D25)) (rest5 : (List UInt8)) : St := mkSt [(0, (.d .str (s0 : (List UInt8)))), (2, (.vs 2 0 T25 (t2 : List D25))), (3, (.d .bool (t3 : Bool))), (4, (.vs 4 0 T25 (out4 : List D25))), (5, (.d .str (rest5 : (List UInt8))))] [(2, (.vec T25 0)), (4, (.vec T25 0))]
noncomputable def card_Read.r5 (K : Nat)  (n : Nat) : St → Option ((List D25) × Bool × Unit) := loopAt [.r, .s, .r, .r, .r, .r, .l, .b] card_Read.code (card_Read.C K) (card_Read.ret K) [] n
noncomputable def card_Read.l5 (K : Nat)  (n : Nat) (s0 : (List UInt8)) (t2 : (List D25)) (t3 : Bool) (out4 : (List D25)) (rest5 : (List UInt8)) : Option ((List D25) × Bool × Unit) := card_Read.r5 K n (card_Read.m5 s0 t2 t3 out4 rest5)
noncomputable def card_Read.m10 (s0 : (List UInt8)) (t2 : (List D25)) (t3 : Bool) (out4 : (List D25)) (rest5 : (List UInt8)) (behind7 : (List UInt8)) (bc9_0 : Int) (bc9_1 : (List (List UInt8))) : St := mkSt [(0, (.d .str (s0 : (List UInt8)))), (2, (.vs 2 0 T25 (t2 : List D25))), (3, (.d .bool (t3 : Bool))), (4, (.vs 4 0 T25 (out4 : List D25))), (5, (.d .str (rest5 : (List UInt8)))), (7, (.d .str (behind7 : (List UInt8)))), (9, (.ptr 9 0))] [(2, (.vec T25 0)), (4, (.vec T25 0)), (9, (.box [(.d (.int .u8) (bc9_0 : Int)), (.vs 10901 0 .str (bc9_1 : List (List UInt8)))])), (10901, (.vec .str 0))]
noncomputable def card_Read.r10 (K : Nat) (ρ5 : St → Option ((List D25) × Bool × Unit)) (l : List ((List UInt8) × Unit)) : St → Option ((List D25) × Bool × Unit) := rangeAt [.r, .s, .r, .r, .r, .r, .l, .b, .o, .r, .b, .r, .r, .r, .l, .r, .b] card_Read.code (card_Read.C K) (card_Read.ret K) [ρ5] (.prod .str .unit) l
noncomputable def card_Read.i10 (K : Nat) (ρ5 : St → Option ((List D25) × Bool × Unit)) (l : List ((List UInt8) × Unit)) (s0 : (List UInt8)) (t2 : (List D25)) (t3 : Bool) (out4 : (List D25)) (rest5 : (List UInt8)) (behind7 : (List UInt8)) (bc9_0 : Int) (bc9_1 : (List (List UInt8))) : Option ((List D25) × Bool × Unit) := card_Read.r10 K ρ5 l (card_Read.m10 s0 t2 t3 out4 rest5 behind7 bc9_0 bc9_1)
theorem card_Read.eq (K : Nat) (s0 : (List UInt8)) : card_Read.f K (s0, ()) =
  ((bif (decide ((List.length s0 : Int) < (43 : Int))) then
    (some (([] : (List D25)), false, ()))
  else
    (chks [(decide ((0 : Int) ≤ (IntKind.wrap .i64 ((List.length s0 : Int) - (43 : Int))))), (decide ((IntKind.wrap .i64 ((List.length s0 : Int) - (43 : Int))) ≤ (List.length s0 : Int)))]
     ((card_sealed.f K ((cutL s0 none (some (IntKind.wrap .i64 ((List.length s0 : Int) - (43 : Int))))), ())).bind fun v_1 =>
      (bif (!(decide (v_1 = s0))) then
        (some (([] : (List D25)), false, ()))
      else
        (chks [(decide ((0 : Int) ≤ (IntKind.wrap .i64 ((List.length s0 : Int) - (43 : Int))))), (decide ((IntKind.wrap .i64 ((List.length s0 : Int) - (43 : Int))) ≤ (List.length s0 : Int)))]
         (card_Read.l5 K K s0 ([] : (List D25)) false ([] : (List D25)) (cutL s0 none (some (IntKind.wrap .i64 ((List.length s0 : Int) - (43 : Int))))))))))) : Option ((List D25) × Bool × Unit)) := by kernel_rfl
theorem card_Read.l5_zero (K : Nat)  (s0 : (List UInt8)) (t2 : (List D25)) (t3 : Bool) (out4 : (List D25)) (rest5 : (List UInt8)) : card_Read.l5 K 0 s0 t2 t3 out4 rest5 = none := by kernel_rfl
theorem card_Read.l5_succ (K : Nat)  (n : Nat) (s0 : (List UInt8)) (t2 : (List D25)) (t3 : Bool) (out4 : (List D25)) (rest5 : (List UInt8)) : card_Read.l5 K (n + 1) s0 t2 t3 out4 rest5 =
  ((bif (!(decide (rest5 = ([] : List UInt8)))) then
    ((strings_Cut.f K (rest5, ([10] : List UInt8), ())).bind fun v_1 =>
     (bif (!v_1.2.2.1) then
       (bif (!(decide (rest5 = ([] : List UInt8)))) then
         (some (([] : (List D25)), false, ()))
       else
         ((card_Print.f K (out4, ())).bind fun v_2 =>
          (bif (!(decide (v_2 = s0))) then
            (some (([] : (List D25)), false, ()))
          else
            (some (out4, true, ())))))
     else
       ((escape_Words.L (v_1.1, ())).bind fun v_3 =>
        (card_Read.i10 K (card_Read.r5 K n) v_3 s0 t2 t3 out4 rest5 v_1.2.1 0 ([] : (List (List UInt8)))))))
  else
    (bif (!(decide (rest5 = ([] : List UInt8)))) then
      (some (([] : (List D25)), false, ()))
    else
      ((card_Print.f K (out4, ())).bind fun v_4 =>
       (bif (!(decide (v_4 = s0))) then
         (some (([] : (List D25)), false, ()))
       else
         (some (out4, true, ())))))) : Option ((List D25) × Bool × Unit)) := by kernel_rfl
theorem card_Read.i10_nil (K : Nat) (ρ5 : St → Option ((List D25) × Bool × Unit)) (s0 : (List UInt8)) (t2 : (List D25)) (t3 : Bool) (out4 : (List D25)) (rest5 : (List UInt8)) (behind7 : (List UInt8)) (bc9_0 : Int) (bc9_1 : (List (List UInt8))) : card_Read.i10 K ρ5 [] s0 t2 t3 out4 rest5 behind7 bc9_0 bc9_1 =
  ((chks [(growOk (List.length out4) (List.length ([(bc9_0, (bc9_1, ()))] : List D25)) 32)]
   (ρ5 (card_Read.m5 s0 t2 t3 (out4 ++ ([(bc9_0, (bc9_1, ()))] : List D25)) behind7))) : Option ((List D25) × Bool × Unit)) := by kernel_rfl
theorem card_Read.i10_cons (K : Nat) (ρ5 : St → Option ((List D25) × Bool × Unit)) (x10 : ((List UInt8) × Unit)) (l : List ((List UInt8) × Unit)) (s0 : (List UInt8)) (t2 : (List D25)) (t3 : Bool) (out4 : (List D25)) (rest5 : (List UInt8)) (behind7 : (List UInt8)) (bc9_0 : Int) (bc9_1 : (List (List UInt8))) : card_Read.i10 K ρ5 (x10 :: l) s0 t2 t3 out4 rest5 behind7 bc9_0 bc9_1 =
  ((bif (decide ((0 : Int) < bc9_0)) then
    (chks [(growOk (List.length bc9_1) (List.length ([x10.1] : List (List UInt8))) 16)]
     (card_Read.i10 K ρ5 l s0 t2 t3 out4 rest5 behind7 bc9_0 (bc9_1 ++ ([x10.1] : List (List UInt8)))))
  else
    (bif (decide ((List.length x10.1 : Int) = (1 : Int))) then
      (chks [(decide ((0 : Int) < (List.length x10.1 : Int)))]
       (card_Read.i10 K ρ5 l s0 t2 t3 out4 rest5 behind7 ((List.getD x10.1 (Int.toNat (0 : Int)) 0).toNat : Int) bc9_1))
    else
      (bif (!(decide (rest5 = ([] : List UInt8)))) then
        (some (([] : (List D25)), false, ()))
      else
        ((card_Print.f K (out4, ())).bind fun v_1 =>
         (bif (!(decide (v_1 = s0))) then
           (some (([] : (List D25)), false, ()))
         else
           (some (out4, true, ()))))))) : Option ((List D25) × Bool × Unit)) := by kernel_rfl
theorem card_Read.tbOk (K : Nat) : TbOk Try.prog (card_Read.tb K) := by
  intro e he
  simp only [card_Read.tb, List.mem_cons, List.not_mem_nil, or_false] at he
  rcases he with rfl | rfl | rfl
  · exact ⟨card_sealed.ok K, enters_of Try.func21 (by kernel_rfl) rfl⟩
  · exact ⟨strings_Cut.ok K, enters_of Try.func23 (by kernel_rfl) rfl⟩
  · exact ⟨card_Print.ok K, enters_of Try.func8 (by kernel_rfl) rfl⟩

theorem card_Read.itsOk : ItbOk Try.prog card_Read.its := by
  intro e he
  simp only [card_Read.its, List.mem_cons, List.not_mem_nil, or_false] at he
  rcases he with rfl
  · exact ⟨escape_Words.itc, enters_of Try.func24 (by kernel_rfl) rfl⟩

theorem card_Read.ok (K : Nat) : PureC Try.prog 9 ⟨[.str], [(.slice T25), .bool], card_Read.f K⟩ :=
  fn_sound (itOk _ _) (E := card_Read.E K) (full_ok tys_ok card_Read.itsOk (card_Read.tbOk K) par_ok bld_ok bty_ok) mixed Try.func9 (c := card_Read.code) (by kernel_rfl) (by kernel_rfl) (by decide) (by kernel_rfl)
/-! ### ammonite/card.One: function 10 -/
noncomputable def card_One.tb (K : Nat) : Tb := []
noncomputable def card_One.its : Itb := [(13, ⟨[(.slice T25), (.int .u8)], (.prod (.int .i64) (.prod (.slice .str) .unit)), card_Of.L⟩)]
noncomputable def card_One.code : Code := (Try.f10.body).getD .skip
noncomputable def card_One.nm : Nat → NormSpec := lookN [(4, ⟨[(4, (.vec .str)), (5, (.data (.int .i64))), (6, .raw), (7, .raw)], [(6, [(.data (.slice .str))]), (7, [(.data (.int .i64))])], []⟩)]
noncomputable def card_One.pre : Nat → Option NormSpec := lookP []
noncomputable def card_One.E (K : Nat) : Env := ⟨lookR tys, bty, fullCall card_One.its (card_One.tb K) bids⟩
noncomputable def card_One.ret (K : Nat) : St → Option (resT [(.slice .str), (.int .i64)]).den := retA (card_One.E K) [(.slice .str), (.int .i64)] [(.tmp 4), (.tmp 5)]
noncomputable def card_One.C (K : Nat) : CEnv (resT [(.slice .str), (.int .i64)]).den := ⟨card_One.E K, 22, K, card_One.nm, card_One.ret K, [], fun _ => false, card_One.pre⟩
noncomputable def card_One.f (K : Nat) (x : (prodT [(.slice T25), (.int .u8)]).den) : Option (resT [(.slice .str), (.int .i64)]).den := exec card_One.code (card_One.C K) (card_One.ret K) (init [(.slice T25), (.int .u8)] x)
noncomputable def card_One.m4 (t4 : (List (List UInt8))) (t5 : Int) (bout6_0 : (List (List UInt8))) (bn7_0 : Int) : St := mkSt [(4, (.vs 4 0 .str (t4 : List (List UInt8)))), (5, (.d (.int .i64) (t5 : Int))), (6, (.ptr 6 0)), (7, (.ptr 7 0))] [(4, (.vec .str 0)), (6, (.box [(.d (.slice .str) (bout6_0 : (List (List UInt8))))])), (7, (.box [(.d (.int .i64) (bn7_0 : Int))]))]
noncomputable def card_One.r4 (K : Nat)  (l : List D25) : St → Option ((List (List UInt8)) × Int × Unit) := rangeAt [.r, .r, .r, .l, .r, .b] card_One.code (card_One.C K) (card_One.ret K) [] (.prod (.int .i64) (.prod (.slice .str) .unit)) l
noncomputable def card_One.i4 (K : Nat)  (l : List D25) (t4 : (List (List UInt8))) (t5 : Int) (bout6_0 : (List (List UInt8))) (bn7_0 : Int) : Option ((List (List UInt8)) × Int × Unit) := card_One.r4 K l (card_One.m4 t4 t5 bout6_0 bn7_0)
theorem card_One.eq (K : Nat) (l0 : (List D25)) (letter1 : Int) : card_One.f K (l0, letter1, ()) =
  (((card_Of.L (l0, letter1, ())).bind fun v_1 =>
   (card_One.i4 K v_1 ([] : (List (List UInt8))) (0 : Int) ([] : (List (List UInt8))) (0 : Int))) : Option ((List (List UInt8)) × Int × Unit)) := by kernel_rfl
theorem card_One.i4_nil (K : Nat)  (t4 : (List (List UInt8))) (t5 : Int) (bout6_0 : (List (List UInt8))) (bn7_0 : Int) : card_One.i4 K [] t4 t5 bout6_0 bn7_0 =
  ((some (bout6_0, bn7_0, ())) : Option ((List (List UInt8)) × Int × Unit)) := by kernel_rfl
theorem card_One.i4_cons (K : Nat)  (x4 : D25) (l : List D25) (t4 : (List (List UInt8))) (t5 : Int) (bout6_0 : (List (List UInt8))) (bn7_0 : Int) : card_One.i4 K (x4 :: l) t4 t5 bout6_0 bn7_0 =
  ((bif (decide (bn7_0 = (0 : Int))) then
    (card_One.i4 K l t4 t5 x4.2.1 (IntKind.wrap .i64 (bn7_0 + (1 : Int))))
  else
    (card_One.i4 K l t4 t5 bout6_0 (IntKind.wrap .i64 (bn7_0 + (1 : Int))))) : Option ((List (List UInt8)) × Int × Unit)) := by kernel_rfl
theorem card_One.tbOk (K : Nat) : TbOk Try.prog (card_One.tb K) := by
  intro e he
  simp only [card_One.tb, List.mem_cons, List.not_mem_nil, or_false] at he

theorem card_One.itsOk : ItbOk Try.prog card_One.its := by
  intro e he
  simp only [card_One.its, List.mem_cons, List.not_mem_nil, or_false] at he
  rcases he with rfl
  · exact ⟨card_Of.itc, enters_of Try.func13 (by kernel_rfl) rfl⟩

theorem card_One.ok (K : Nat) : PureC Try.prog 10 ⟨[(.slice T25), (.int .u8)], [(.slice .str), (.int .i64)], card_One.f K⟩ :=
  fn_sound (itOk _ _) (E := card_One.E K) (full_ok tys_ok card_One.itsOk (card_One.tbOk K) par_ok bld_ok bty_ok) mixed Try.func10 (c := card_One.code) (by kernel_rfl) (by kernel_rfl) (by decide) (by kernel_rfl)
/-! ### ammonite/ammoniteref10.Escape: function 25 -/
noncomputable def ammoniteref10_Escape.tb (K : Nat) : Tb := []
noncomputable def ammoniteref10_Escape.its : Itb := []
noncomputable def ammoniteref10_Escape.code : Code := (Try.f25.body).getD .skip
noncomputable def ammoniteref10_Escape.nm : Nat → NormSpec := lookN [(3, ⟨[(0, (.data .str)), (3, (.data .str)), (4, (.data (.int .i64)))], [], []⟩)]
noncomputable def ammoniteref10_Escape.pre : Nat → Option NormSpec := lookP []
noncomputable def ammoniteref10_Escape.E (K : Nat) : Env := ⟨lookR tys, bty, fullCall ammoniteref10_Escape.its (ammoniteref10_Escape.tb K) bids⟩
noncomputable def ammoniteref10_Escape.ret (K : Nat) : St → Option (resT [.str]).den := retA (ammoniteref10_Escape.E K) [.str] [(.tmp 2)]
noncomputable def ammoniteref10_Escape.C (K : Nat) : CEnv (resT [.str]).den := ⟨ammoniteref10_Escape.E K, 34, K, ammoniteref10_Escape.nm, ammoniteref10_Escape.ret K, [], fun _ => false, ammoniteref10_Escape.pre⟩
noncomputable def ammoniteref10_Escape.f (K : Nat) (x : (prodT [.str]).den) : Option (resT [.str]).den := exec ammoniteref10_Escape.code (ammoniteref10_Escape.C K) (ammoniteref10_Escape.ret K) (init [.str] x)
noncomputable def ammoniteref10_Escape.m3 (s0 : (List UInt8)) (out3 : (List UInt8)) (i4 : Int) : St := mkSt [(0, (.d .str (s0 : (List UInt8)))), (3, (.d .str (out3 : (List UInt8)))), (4, (.d (.int .i64) (i4 : Int)))] []
noncomputable def ammoniteref10_Escape.r3 (K : Nat)  (n : Nat) : St → Option (List UInt8) := loopAt [.r, .r, .l, .r, .b] ammoniteref10_Escape.code (ammoniteref10_Escape.C K) (ammoniteref10_Escape.ret K) [] n
noncomputable def ammoniteref10_Escape.l3 (K : Nat)  (n : Nat) (s0 : (List UInt8)) (out3 : (List UInt8)) (i4 : Int) : Option (List UInt8) := ammoniteref10_Escape.r3 K n (ammoniteref10_Escape.m3 s0 out3 i4)
theorem ammoniteref10_Escape.eq (K : Nat) (s0 : (List UInt8)) : ammoniteref10_Escape.f K (s0, ()) =
  ((ammoniteref10_Escape.l3 K K s0 ([] : List UInt8) (0 : Int)) : Option (List UInt8)) := by kernel_rfl
theorem ammoniteref10_Escape.l3_zero (K : Nat)  (s0 : (List UInt8)) (out3 : (List UInt8)) (i4 : Int) : ammoniteref10_Escape.l3 K 0 s0 out3 i4 = none := by kernel_rfl
theorem ammoniteref10_Escape.l3_succ (K : Nat)  (n : Nat) (s0 : (List UInt8)) (out3 : (List UInt8)) (i4 : Int) : ammoniteref10_Escape.l3 K (n + 1) s0 out3 i4 =
  ((bif (decide (i4 < (List.length s0 : Int))) then
    (chks [(decide ((0 : Int) ≤ i4)), (decide (i4 < (List.length s0 : Int)))]
     (bif (decide (((List.getD s0 (Int.toNat i4) 0).toNat : Int) = (32 : Int))) then
       (chks [(catOk out3 ([92, 115] : List UInt8))]
        (ammoniteref10_Escape.l3 K n s0 (out3 ++ ([92, 115] : List UInt8)) (IntKind.wrap .i64 (i4 + (1 : Int)))))
     else
       (bif (decide (((List.getD s0 (Int.toNat i4) 0).toNat : Int) = (10 : Int))) then
         (chks [(catOk out3 ([92, 110] : List UInt8))]
          (ammoniteref10_Escape.l3 K n s0 (out3 ++ ([92, 110] : List UInt8)) (IntKind.wrap .i64 (i4 + (1 : Int)))))
       else
         (bif (decide (((List.getD s0 (Int.toNat i4) 0).toNat : Int) = (92 : Int))) then
           (chks [(catOk out3 ([92, 92] : List UInt8))]
            (ammoniteref10_Escape.l3 K n s0 (out3 ++ ([92, 92] : List UInt8)) (IntKind.wrap .i64 (i4 + (1 : Int)))))
         else
           (chks [(decide ((0 : Int) ≤ (IntKind.wrap .i64 (i4 + (1 : Int))))), (decide ((IntKind.wrap .i64 (i4 + (1 : Int))) ≤ (List.length s0 : Int))), (decide ((0 : Int) ≤ i4)), (decide (i4 ≤ (IntKind.wrap .i64 (i4 + (1 : Int)))))]
            (chks [(catOk out3 (cutL s0 (some i4) (some (IntKind.wrap .i64 (i4 + (1 : Int))))))]
             (ammoniteref10_Escape.l3 K n s0 (out3 ++ (cutL s0 (some i4) (some (IntKind.wrap .i64 (i4 + (1 : Int)))))) (IntKind.wrap .i64 (i4 + (1 : Int))))))))))
  else
    (some out3)) : Option (List UInt8)) := by kernel_rfl
theorem ammoniteref10_Escape.tbOk (K : Nat) : TbOk Try.prog (ammoniteref10_Escape.tb K) := by
  intro e he
  simp only [ammoniteref10_Escape.tb, List.mem_cons, List.not_mem_nil, or_false] at he

theorem ammoniteref10_Escape.itsOk : ItbOk Try.prog ammoniteref10_Escape.its := by
  intro e he
  simp only [ammoniteref10_Escape.its, List.mem_cons, List.not_mem_nil, or_false] at he

theorem ammoniteref10_Escape.ok (K : Nat) : PureC Try.prog 25 ⟨[.str], [.str], ammoniteref10_Escape.f K⟩ :=
  fn_sound (itOk _ _) (E := ammoniteref10_Escape.E K) (full_ok tys_ok ammoniteref10_Escape.itsOk (ammoniteref10_Escape.tbOk K) par_ok bld_ok bty_ok) mixed Try.func25 (c := ammoniteref10_Escape.code) (by kernel_rfl) (by kernel_rfl) (by decide) (by kernel_rfl)
/-! ### ammonite/ammonitelaw11.cards: function 11 -/
noncomputable def ammonitelaw11_cards.tb (K : Nat) : Tb := [(25, ⟨[.str], [.str], ammoniteref10_Escape.f K⟩)]
noncomputable def ammonitelaw11_cards.its : Itb := []
noncomputable def ammonitelaw11_cards.code : Code := (Try.f11.body).getD .skip
noncomputable def ammonitelaw11_cards.nm : Nat → NormSpec := lookN [(3, ⟨[(0, (.data (.slice T25))), (1, (.data .bool)), (5, (.vec T25)), (6, (.data (.int .i64)))], [], []⟩), (7, ⟨[(0, (.data (.slice T25))), (1, (.data .bool)), (5, (.vec T25)), (6, (.data (.int .i64))), (7, .raw), (8, (.data (.int .i64)))], [(7, [(.data (.int .u8)), (.vec .str)])], []⟩), (16, ⟨[(0, (.data (.slice T25))), (1, (.data .bool)), (5, (.vec T25)), (6, (.data (.int .i64))), (7, .raw), (10, (.data (.int .i64)))], [(7, [(.data (.int .u8)), (.vec .str)])], []⟩)]
noncomputable def ammonitelaw11_cards.pre : Nat → Option NormSpec := lookP [(18, ⟨[(0, (.data (.slice T25))), (1, (.data .bool)), (5, (.vec T25)), (6, (.data (.int .i64))), (7, .raw), (10, (.data (.int .i64)))], [(7, [(.data (.int .u8)), (.vec .str)])], []⟩)]
noncomputable def ammonitelaw11_cards.E (K : Nat) : Env := ⟨lookR tys, bty, fullCall ammonitelaw11_cards.its (ammonitelaw11_cards.tb K) bids⟩
noncomputable def ammonitelaw11_cards.ret (K : Nat) : St → Option (resT [(.slice T25)]).den := retA (ammonitelaw11_cards.E K) [(.slice T25)] [(.tmp 4)]
noncomputable def ammonitelaw11_cards.C (K : Nat) : CEnv (resT [(.slice T25)]).den := ⟨ammonitelaw11_cards.E K, 112, K, ammonitelaw11_cards.nm, ammonitelaw11_cards.ret K, [], fun _ => false, ammonitelaw11_cards.pre⟩
noncomputable def ammonitelaw11_cards.f (K : Nat) (x : (prodT [(.slice T25), .bool]).den) : Option (resT [(.slice T25)]).den := exec ammonitelaw11_cards.code (ammonitelaw11_cards.C K) (ammonitelaw11_cards.ret K) (init [(.slice T25), .bool] x)
noncomputable def ammonitelaw11_cards.m3 (l0 : (List D25)) (raw1 : Bool) (out5 : (List D25)) (i6 : Int) : St := mkSt [(0, (.d (.slice T25) (l0 : (List D25)))), (1, (.d .bool (raw1 : Bool))), (5, (.vs 5 0 T25 (out5 : List D25))), (6, (.d (.int .i64) (i6 : Int)))] [(5, (.vec T25 0))]
noncomputable def ammonitelaw11_cards.r3 (K : Nat)  (n : Nat) : St → Option (List D25) := loopAt [.r, .r, .l, .r, .b] ammonitelaw11_cards.code (ammonitelaw11_cards.C K) (ammonitelaw11_cards.ret K) [] n
noncomputable def ammonitelaw11_cards.l3 (K : Nat)  (n : Nat) (l0 : (List D25)) (raw1 : Bool) (out5 : (List D25)) (i6 : Int) : Option (List D25) := ammonitelaw11_cards.r3 K n (ammonitelaw11_cards.m3 l0 raw1 out5 i6)
noncomputable def ammonitelaw11_cards.m7 (l0 : (List D25)) (raw1 : Bool) (out5 : (List D25)) (i6 : Int) (j8 : Int) (bc7_0 : Int) (bc7_1 : (List (List UInt8))) : St := mkSt [(0, (.d (.slice T25) (l0 : (List D25)))), (1, (.d .bool (raw1 : Bool))), (5, (.vs 5 0 T25 (out5 : List D25))), (6, (.d (.int .i64) (i6 : Int))), (7, (.ptr 7 0)), (8, (.d (.int .i64) (j8 : Int)))] [(5, (.vec T25 0)), (7, (.box [(.d (.int .u8) (bc7_0 : Int)), (.vs 10701 0 .str (bc7_1 : List (List UInt8)))])), (10701, (.vec .str 0))]
noncomputable def ammonitelaw11_cards.r7 (K : Nat) (ρ3 : St → Option (List D25)) (n : Nat) : St → Option (List D25) := loopAt [.r, .r, .l, .r, .b, .o, .r, .l, .b, .r, .l, .r, .b] ammonitelaw11_cards.code (ammonitelaw11_cards.C K) (ammonitelaw11_cards.ret K) [ρ3] n
noncomputable def ammonitelaw11_cards.l7 (K : Nat) (ρ3 : St → Option (List D25)) (n : Nat) (l0 : (List D25)) (raw1 : Bool) (out5 : (List D25)) (i6 : Int) (j8 : Int) (bc7_0 : Int) (bc7_1 : (List (List UInt8))) : Option (List D25) := ammonitelaw11_cards.r7 K ρ3 n (ammonitelaw11_cards.m7 l0 raw1 out5 i6 j8 bc7_0 bc7_1)
noncomputable def ammonitelaw11_cards.m16 (l0 : (List D25)) (raw1 : Bool) (out5 : (List D25)) (i6 : Int) (at10 : Int) (bc7_0 : Int) (bc7_1 : (List (List UInt8))) : St := mkSt [(0, (.d (.slice T25) (l0 : (List D25)))), (1, (.d .bool (raw1 : Bool))), (5, (.vs 5 0 T25 (out5 : List D25))), (6, (.d (.int .i64) (i6 : Int))), (7, (.ptr 7 0)), (10, (.d (.int .i64) (at10 : Int)))] [(5, (.vec T25 0)), (7, (.box [(.d (.int .u8) (bc7_0 : Int)), (.vs 10701 0 .str (bc7_1 : List (List UInt8)))])), (10701, (.vec .str 0))]
noncomputable def ammonitelaw11_cards.r16 (K : Nat) (ρ3 : St → Option (List D25)) (n : Nat) : St → Option (List D25) := loopAt [.r, .r, .l, .r, .b, .o, .r, .l, .b, .r, .r, .r, .r, .l, .b] ammonitelaw11_cards.code (ammonitelaw11_cards.C K) (ammonitelaw11_cards.ret K) [ρ3] n
noncomputable def ammonitelaw11_cards.l16 (K : Nat) (ρ3 : St → Option (List D25)) (n : Nat) (l0 : (List D25)) (raw1 : Bool) (out5 : (List D25)) (i6 : Int) (at10 : Int) (bc7_0 : Int) (bc7_1 : (List (List UInt8))) : Option (List D25) := ammonitelaw11_cards.r16 K ρ3 n (ammonitelaw11_cards.m16 l0 raw1 out5 i6 at10 bc7_0 bc7_1)
noncomputable def ammonitelaw11_cards.mj18 (l0 : (List D25)) (raw1 : Bool) (out5 : (List D25)) (i6 : Int) (at10 : Int) (bc7_0 : Int) (bc7_1 : (List (List UInt8))) : St := mkSt [(0, (.d (.slice T25) (l0 : (List D25)))), (1, (.d .bool (raw1 : Bool))), (5, (.vs 5 0 T25 (out5 : List D25))), (6, (.d (.int .i64) (i6 : Int))), (7, (.ptr 7 0)), (10, (.d (.int .i64) (at10 : Int)))] [(5, (.vec T25 0)), (7, (.box [(.d (.int .u8) (bc7_0 : Int)), (.vs 10701 0 .str (bc7_1 : List (List UInt8)))])), (10701, (.vec .str 0))]
noncomputable def ammonitelaw11_cards.j18 (K : Nat) (ρ3 : St → Option (List D25)) (l0 : (List D25)) (raw1 : Bool) (out5 : (List D25)) (i6 : Int) (at10 : Int) (bc7_0 : Int) (bc7_1 : (List (List UInt8))) : Option (List D25) := pointAt [.r, .r, .l, .r, .b, .o, .r, .l, .b, .r, .r, .r, .r, .r] ammonitelaw11_cards.code (ammonitelaw11_cards.C K) (ammonitelaw11_cards.ret K) [ρ3] (ammonitelaw11_cards.mj18 l0 raw1 out5 i6 at10 bc7_0 bc7_1)
theorem ammonitelaw11_cards.eq (K : Nat) (l0 : (List D25)) (raw1 : Bool) : ammonitelaw11_cards.f K (l0, raw1, ()) =
  ((ammonitelaw11_cards.l3 K K l0 raw1 ([] : (List D25)) (0 : Int)) : Option (List D25)) := by kernel_rfl
theorem ammonitelaw11_cards.l3_zero (K : Nat)  (l0 : (List D25)) (raw1 : Bool) (out5 : (List D25)) (i6 : Int) : ammonitelaw11_cards.l3 K 0 l0 raw1 out5 i6 = none := by kernel_rfl
theorem ammonitelaw11_cards.l3_succ (K : Nat)  (n : Nat) (l0 : (List D25)) (raw1 : Bool) (out5 : (List D25)) (i6 : Int) : ammonitelaw11_cards.l3 K (n + 1) l0 raw1 out5 i6 =
  ((bif (decide (i6 < (List.length l0 : Int))) then
    (bif (decide (i6 < (6 : Int))) then
      (chks [(decide ((0 : Int) ≤ i6)), (decide (i6 < (List.length l0 : Int)))]
       (ammonitelaw11_cards.l7 K (ammonitelaw11_cards.r3 K n) K l0 raw1 out5 i6 (0 : Int) (List.getD l0 (Int.toNat i6) (DTy.dflt T25)).1 ([] : (List (List UInt8)))))
    else
      (some out5))
  else
    (some out5)) : Option (List D25)) := by kernel_rfl
theorem ammonitelaw11_cards.l7_zero (K : Nat) (ρ3 : St → Option (List D25)) (l0 : (List D25)) (raw1 : Bool) (out5 : (List D25)) (i6 : Int) (j8 : Int) (bc7_0 : Int) (bc7_1 : (List (List UInt8))) : ammonitelaw11_cards.l7 K ρ3 0 l0 raw1 out5 i6 j8 bc7_0 bc7_1 = none := by kernel_rfl
theorem ammonitelaw11_cards.l7_succ (K : Nat) (ρ3 : St → Option (List D25)) (n : Nat) (l0 : (List D25)) (raw1 : Bool) (out5 : (List D25)) (i6 : Int) (j8 : Int) (bc7_0 : Int) (bc7_1 : (List (List UInt8))) : ammonitelaw11_cards.l7 K ρ3 (n + 1) l0 raw1 out5 i6 j8 bc7_0 bc7_1 =
  ((chks [(decide ((0 : Int) ≤ i6)), (decide (i6 < (List.length l0 : Int)))]
   (bif (decide (j8 < (List.length (List.getD l0 (Int.toNat i6) (DTy.dflt T25)).2.1 : Int))) then
     (bif (decide (j8 < (3 : Int))) then
       (chks [(decide ((0 : Int) ≤ i6)), (decide (i6 < (List.length l0 : Int)))]
        (chks [(decide ((0 : Int) ≤ j8)), (decide (j8 < (List.length (List.getD l0 (Int.toNat i6) (DTy.dflt T25)).2.1 : Int)))]
         (chks [(decide ((0 : Int) ≤ i6)), (decide (i6 < (List.length l0 : Int)))]
          (chks [(decide ((0 : Int) ≤ j8)), (decide (j8 < (List.length (List.getD l0 (Int.toNat i6) (DTy.dflt T25)).2.1 : Int)))]
           (chks [(decide ((0 : Int) ≤ (if (9 : Int) < (List.length (List.getD (List.getD l0 (Int.toNat i6) (DTy.dflt T25)).2.1 (Int.toNat j8) (DTy.dflt .str)) : Int) then (9 : Int) else (List.length (List.getD (List.getD l0 (Int.toNat i6) (DTy.dflt T25)).2.1 (Int.toNat j8) (DTy.dflt .str)) : Int)))), (decide ((if (9 : Int) < (List.length (List.getD (List.getD l0 (Int.toNat i6) (DTy.dflt T25)).2.1 (Int.toNat j8) (DTy.dflt .str)) : Int) then (9 : Int) else (List.length (List.getD (List.getD l0 (Int.toNat i6) (DTy.dflt T25)).2.1 (Int.toNat j8) (DTy.dflt .str)) : Int)) ≤ (List.length (List.getD (List.getD l0 (Int.toNat i6) (DTy.dflt T25)).2.1 (Int.toNat j8) (DTy.dflt .str)) : Int)))]
            (bif (!raw1) then
              ((ammoniteref10_Escape.f K ((cutL (List.getD (List.getD l0 (Int.toNat i6) (DTy.dflt T25)).2.1 (Int.toNat j8) (DTy.dflt .str)) none (some (if (9 : Int) < (List.length (List.getD (List.getD l0 (Int.toNat i6) (DTy.dflt T25)).2.1 (Int.toNat j8) (DTy.dflt .str)) : Int) then (9 : Int) else (List.length (List.getD (List.getD l0 (Int.toNat i6) (DTy.dflt T25)).2.1 (Int.toNat j8) (DTy.dflt .str)) : Int)))), ())).bind fun v_1 =>
               (chks [(catOk ([97] : List UInt8) v_1)]
                (chks [(growOk (List.length bc7_1) (List.length ([(([97] : List UInt8) ++ v_1)] : List (List UInt8))) 16)]
                 (ammonitelaw11_cards.l7 K ρ3 n l0 raw1 out5 i6 (IntKind.wrap .i64 (j8 + (1 : Int))) bc7_0 (bc7_1 ++ ([(([97] : List UInt8) ++ v_1)] : List (List UInt8)))))))
            else
              (chks [(growOk (List.length bc7_1) (List.length ([(cutL (List.getD (List.getD l0 (Int.toNat i6) (DTy.dflt T25)).2.1 (Int.toNat j8) (DTy.dflt .str)) none (some (if (9 : Int) < (List.length (List.getD (List.getD l0 (Int.toNat i6) (DTy.dflt T25)).2.1 (Int.toNat j8) (DTy.dflt .str)) : Int) then (9 : Int) else (List.length (List.getD (List.getD l0 (Int.toNat i6) (DTy.dflt T25)).2.1 (Int.toNat j8) (DTy.dflt .str)) : Int))))] : List (List UInt8))) 16)]
               (ammonitelaw11_cards.l7 K ρ3 n l0 raw1 out5 i6 (IntKind.wrap .i64 (j8 + (1 : Int))) bc7_0 (bc7_1 ++ ([(cutL (List.getD (List.getD l0 (Int.toNat i6) (DTy.dflt T25)).2.1 (Int.toNat j8) (DTy.dflt .str)) none (some (if (9 : Int) < (List.length (List.getD (List.getD l0 (Int.toNat i6) (DTy.dflt T25)).2.1 (Int.toNat j8) (DTy.dflt .str)) : Int) then (9 : Int) else (List.length (List.getD (List.getD l0 (Int.toNat i6) (DTy.dflt T25)).2.1 (Int.toNat j8) (DTy.dflt .str)) : Int))))] : List (List UInt8)))))))))))
     else
       (bif (!raw1) then
         (ammonitelaw11_cards.l16 K ρ3 K l0 raw1 out5 i6 (List.length out5 : Int) (IntKind.wrap .u8 ((65 : Int) + (Int.tmod bc7_0 (25 : Int)))) bc7_1)
       else
         (ammonitelaw11_cards.l16 K ρ3 K l0 raw1 out5 i6 (List.length out5 : Int) bc7_0 bc7_1)))
   else
     (bif (!raw1) then
       (ammonitelaw11_cards.l16 K ρ3 K l0 raw1 out5 i6 (List.length out5 : Int) (IntKind.wrap .u8 ((65 : Int) + (Int.tmod bc7_0 (25 : Int)))) bc7_1)
     else
       (ammonitelaw11_cards.l16 K ρ3 K l0 raw1 out5 i6 (List.length out5 : Int) bc7_0 bc7_1)))) : Option (List D25)) := by kernel_rfl
theorem ammonitelaw11_cards.l16_zero (K : Nat) (ρ3 : St → Option (List D25)) (l0 : (List D25)) (raw1 : Bool) (out5 : (List D25)) (i6 : Int) (at10 : Int) (bc7_0 : Int) (bc7_1 : (List (List UInt8))) : ammonitelaw11_cards.l16 K ρ3 0 l0 raw1 out5 i6 at10 bc7_0 bc7_1 = none := by kernel_rfl
theorem ammonitelaw11_cards.l16_succ (K : Nat) (ρ3 : St → Option (List D25)) (n : Nat) (l0 : (List D25)) (raw1 : Bool) (out5 : (List D25)) (i6 : Int) (at10 : Int) (bc7_0 : Int) (bc7_1 : (List (List UInt8))) : ammonitelaw11_cards.l16 K ρ3 (n + 1) l0 raw1 out5 i6 at10 bc7_0 bc7_1 =
  ((bif (!raw1) then
    (bif (decide ((0 : Int) < at10)) then
      (chks [(decide ((0 : Int) ≤ (IntKind.wrap .i64 (at10 - (1 : Int))))), (decide ((IntKind.wrap .i64 (at10 - (1 : Int))) < (List.length out5 : Int)))]
       (bif (decide (bc7_0 < (List.getD out5 (Int.toNat (IntKind.wrap .i64 (at10 - (1 : Int)))) (DTy.dflt T25)).1)) then
         (ammonitelaw11_cards.l16 K ρ3 n l0 raw1 out5 i6 (IntKind.wrap .i64 (at10 - (1 : Int))) bc7_0 bc7_1)
       else
         (ammonitelaw11_cards.j18 K ρ3 l0 raw1 out5 i6 at10 bc7_0 bc7_1)))
    else
      (ammonitelaw11_cards.j18 K ρ3 l0 raw1 out5 i6 at10 bc7_0 bc7_1))
  else
    (ammonitelaw11_cards.j18 K ρ3 l0 raw1 out5 i6 at10 bc7_0 bc7_1)) : Option (List D25)) := by kernel_rfl
theorem ammonitelaw11_cards.j18_eq {K : Nat} (hK : 0 < K) (ρ3 : St → Option (List D25)) (l0 : (List D25)) (raw1 : Bool) (out5 : (List D25)) (i6 : Int) (at10 : Int) (bc7_0 : Int) (bc7_1 : (List (List UInt8))) : ammonitelaw11_cards.j18 K ρ3 l0 raw1 out5 i6 at10 bc7_0 bc7_1 =
  ((chks [(decide ((0 : Int) ≤ at10)), (decide (at10 ≤ (List.length out5 : Int)))]
   (chks [(growOk (List.length ([] : List D25)) (List.length (cutL out5 none (some at10))) 32)]
    (chks [(growOk (List.length (([] : List D25) ++ (cutL out5 none (some at10)))) (List.length ([(bc7_0, (bc7_1, ()))] : List D25)) 32)]
     (chks [(decide ((0 : Int) ≤ at10)), (decide (at10 ≤ (List.length out5 : Int)))]
      (chks [(growOk (List.length ((([] : List D25) ++ (cutL out5 none (some at10))) ++ ([(bc7_0, (bc7_1, ()))] : List D25))) (List.length (cutL out5 (some at10) none)) 32)]
       (ρ3 (ammonitelaw11_cards.m3 l0 raw1 (((([] : List D25) ++ (cutL out5 none (some at10))) ++ ([(bc7_0, (bc7_1, ()))] : List D25)) ++ (cutL out5 (some at10) none)) (IntKind.wrap .i64 (i6 + (1 : Int)))))))))) : Option (List D25)) := by
  cases K with
  | zero => exact absurd hK (Nat.lt_irrefl 0)
  | succ K => kernel_rfl
theorem ammonitelaw11_cards.tbOk (K : Nat) : TbOk Try.prog (ammonitelaw11_cards.tb K) := by
  intro e he
  simp only [ammonitelaw11_cards.tb, List.mem_cons, List.not_mem_nil, or_false] at he
  rcases he with rfl
  · exact ⟨ammoniteref10_Escape.ok K, enters_of Try.func25 (by kernel_rfl) rfl⟩

theorem ammonitelaw11_cards.itsOk : ItbOk Try.prog ammonitelaw11_cards.its := by
  intro e he
  simp only [ammonitelaw11_cards.its, List.mem_cons, List.not_mem_nil, or_false] at he

theorem ammonitelaw11_cards.ok (K : Nat) : PureC Try.prog 11 ⟨[(.slice T25), .bool], [(.slice T25)], ammonitelaw11_cards.f K⟩ :=
  fn_sound (itOk _ _) (E := ammonitelaw11_cards.E K) (full_ok tys_ok ammonitelaw11_cards.itsOk (ammonitelaw11_cards.tbOk K) par_ok bld_ok bty_ok) mixed Try.func11 (c := ammonitelaw11_cards.code) (by kernel_rfl) (by kernel_rfl) (by decide) (by kernel_rfl)
/-! ### ammonite/ammonitebook.Same[string]: function 14 -/
noncomputable def ammonitebook_Same_string.tb (K : Nat) : Tb := []
noncomputable def ammonitebook_Same_string.its : Itb := []
noncomputable def ammonitebook_Same_string.code : Code := (Try.f14.body).getD .skip
noncomputable def ammonitebook_Same_string.nm : Nat → NormSpec := lookN [(4, ⟨[(0, (.data (.slice .str))), (1, (.data (.slice .str))), (5, (.data (.int .i64)))], [], []⟩)]
noncomputable def ammonitebook_Same_string.pre : Nat → Option NormSpec := lookP []
noncomputable def ammonitebook_Same_string.E (K : Nat) : Env := ⟨lookR tys, bty, fullCall ammonitebook_Same_string.its (ammonitebook_Same_string.tb K) bids⟩
noncomputable def ammonitebook_Same_string.ret (K : Nat) : St → Option (resT [.bool]).den := retA (ammonitebook_Same_string.E K) [.bool] [(.tmp 4)]
noncomputable def ammonitebook_Same_string.C (K : Nat) : CEnv (resT [.bool]).den := ⟨ammonitebook_Same_string.E K, 26, K, ammonitebook_Same_string.nm, ammonitebook_Same_string.ret K, [], fun _ => false, ammonitebook_Same_string.pre⟩
noncomputable def ammonitebook_Same_string.f (K : Nat) (x : (prodT [(.slice .str), (.slice .str)]).den) : Option (resT [.bool]).den := exec ammonitebook_Same_string.code (ammonitebook_Same_string.C K) (ammonitebook_Same_string.ret K) (init [(.slice .str), (.slice .str)] x)
noncomputable def ammonitebook_Same_string.m4 (a0 : (List (List UInt8))) (b1 : (List (List UInt8))) (i5 : Int) : St := mkSt [(0, (.d (.slice .str) (a0 : (List (List UInt8))))), (1, (.d (.slice .str) (b1 : (List (List UInt8))))), (5, (.d (.int .i64) (i5 : Int)))] []
noncomputable def ammonitebook_Same_string.r4 (K : Nat)  (n : Nat) : St → Option Bool := loopAt [.r, .r, .l, .r, .b] ammonitebook_Same_string.code (ammonitebook_Same_string.C K) (ammonitebook_Same_string.ret K) [] n
noncomputable def ammonitebook_Same_string.l4 (K : Nat)  (n : Nat) (a0 : (List (List UInt8))) (b1 : (List (List UInt8))) (i5 : Int) : Option Bool := ammonitebook_Same_string.r4 K n (ammonitebook_Same_string.m4 a0 b1 i5)
theorem ammonitebook_Same_string.eq (K : Nat) (a0 : (List (List UInt8))) (b1 : (List (List UInt8))) : ammonitebook_Same_string.f K (a0, b1, ()) =
  ((bif (!(decide ((List.length a0 : Int) = (List.length b1 : Int)))) then
    (some false)
  else
    (ammonitebook_Same_string.l4 K K a0 b1 (0 : Int))) : Option Bool) := by kernel_rfl
theorem ammonitebook_Same_string.l4_zero (K : Nat)  (a0 : (List (List UInt8))) (b1 : (List (List UInt8))) (i5 : Int) : ammonitebook_Same_string.l4 K 0 a0 b1 i5 = none := by kernel_rfl
theorem ammonitebook_Same_string.l4_succ (K : Nat)  (n : Nat) (a0 : (List (List UInt8))) (b1 : (List (List UInt8))) (i5 : Int) : ammonitebook_Same_string.l4 K (n + 1) a0 b1 i5 =
  ((bif (decide (i5 < (List.length a0 : Int))) then
    (chks [(decide ((0 : Int) ≤ i5)), (decide (i5 < (List.length a0 : Int)))]
     (chks [(decide ((0 : Int) ≤ i5)), (decide (i5 < (List.length b1 : Int)))]
      (bif (!(decide ((List.getD a0 (Int.toNat i5) (DTy.dflt .str)) = (List.getD b1 (Int.toNat i5) (DTy.dflt .str))))) then
        (some false)
      else
        (ammonitebook_Same_string.l4 K n a0 b1 (IntKind.wrap .i64 (i5 + (1 : Int)))))))
  else
    (some true)) : Option Bool) := by kernel_rfl
theorem ammonitebook_Same_string.tbOk (K : Nat) : TbOk Try.prog (ammonitebook_Same_string.tb K) := by
  intro e he
  simp only [ammonitebook_Same_string.tb, List.mem_cons, List.not_mem_nil, or_false] at he

theorem ammonitebook_Same_string.itsOk : ItbOk Try.prog ammonitebook_Same_string.its := by
  intro e he
  simp only [ammonitebook_Same_string.its, List.mem_cons, List.not_mem_nil, or_false] at he

theorem ammonitebook_Same_string.ok (K : Nat) : PureC Try.prog 14 ⟨[(.slice .str), (.slice .str)], [.bool], ammonitebook_Same_string.f K⟩ :=
  fn_sound (itOk _ _) (E := ammonitebook_Same_string.E K) (full_ok tys_ok ammonitebook_Same_string.itsOk (ammonitebook_Same_string.tbOk K) par_ok bld_ok bty_ok) mixed Try.func14 (c := ammonitebook_Same_string.code) (by kernel_rfl) (by kernel_rfl) (by decide) (by kernel_rfl)
/-! ### ammonite/ammoniteref10.Print: function 15 -/
noncomputable def ammoniteref10_Print.tb (K : Nat) : Tb := [(28, ⟨[.str], [.str], ammoniteref1_Sum.f K⟩)]
noncomputable def ammoniteref10_Print.its : Itb := []
noncomputable def ammoniteref10_Print.code : Code := (Try.f15.body).getD .skip
noncomputable def ammoniteref10_Print.nm : Nat → NormSpec := lookN [(3, ⟨[(3, (.data .str)), (8, (.data (.slice T25))), (9, (.data (.int .i64))), (10, (.data (.int .i64)))], [], []⟩), (7, ⟨[(3, (.data .str)), (8, (.data (.slice T25))), (9, (.data (.int .i64))), (10, (.data (.int .i64))), (21, (.data (.slice .str))), (22, (.data (.int .i64))), (23, (.data (.int .i64)))], [], []⟩)]
noncomputable def ammoniteref10_Print.pre : Nat → Option NormSpec := lookP []
noncomputable def ammoniteref10_Print.E (K : Nat) : Env := ⟨lookR tys, bty, fullCall ammoniteref10_Print.its (ammoniteref10_Print.tb K) bids⟩
noncomputable def ammoniteref10_Print.ret (K : Nat) : St → Option (resT [.str]).den := retA (ammoniteref10_Print.E K) [.str] [(.tmp 2)]
noncomputable def ammoniteref10_Print.C (K : Nat) : CEnv (resT [.str]).den := ⟨ammoniteref10_Print.E K, 41, K, ammoniteref10_Print.nm, ammoniteref10_Print.ret K, [], fun _ => false, ammoniteref10_Print.pre⟩
noncomputable def ammoniteref10_Print.f (K : Nat) (x : (prodT [(.slice T25)]).den) : Option (resT [.str]).den := exec ammoniteref10_Print.code (ammoniteref10_Print.C K) (ammoniteref10_Print.ret K) (init [(.slice T25)] x)
noncomputable def ammoniteref10_Print.m3 (s3 : (List UInt8)) (t8 : (List D25)) (t9 : Int) (t10 : Int) : St := mkSt [(3, (.d .str (s3 : (List UInt8)))), (8, (.d (.slice T25) (t8 : (List D25)))), (9, (.d (.int .i64) (t9 : Int))), (10, (.d (.int .i64) (t10 : Int)))] []
noncomputable def ammoniteref10_Print.r3 (K : Nat)  (n : Nat) : St → Option (List UInt8) := loopAt [.r, .r, .l, .r, .b] ammoniteref10_Print.code (ammoniteref10_Print.C K) (ammoniteref10_Print.ret K) [] n
noncomputable def ammoniteref10_Print.l3 (K : Nat)  (n : Nat) (s3 : (List UInt8)) (t8 : (List D25)) (t9 : Int) (t10 : Int) : Option (List UInt8) := ammoniteref10_Print.r3 K n (ammoniteref10_Print.m3 s3 t8 t9 t10)
noncomputable def ammoniteref10_Print.m7 (s3 : (List UInt8)) (t8 : (List D25)) (t9 : Int) (t10 : Int) (t21 : (List (List UInt8))) (t22 : Int) (t23 : Int) : St := mkSt [(3, (.d .str (s3 : (List UInt8)))), (8, (.d (.slice T25) (t8 : (List D25)))), (9, (.d (.int .i64) (t9 : Int))), (10, (.d (.int .i64) (t10 : Int))), (21, (.d (.slice .str) (t21 : (List (List UInt8))))), (22, (.d (.int .i64) (t22 : Int))), (23, (.d (.int .i64) (t23 : Int)))] []
noncomputable def ammoniteref10_Print.r7 (K : Nat) (ρ3 : St → Option (List UInt8)) (n : Nat) : St → Option (List UInt8) := loopAt [.r, .r, .l, .r, .b, .o, .r, .r, .l, .b, .r, .r, .l, .r, .b] ammoniteref10_Print.code (ammoniteref10_Print.C K) (ammoniteref10_Print.ret K) [ρ3] n
noncomputable def ammoniteref10_Print.l7 (K : Nat) (ρ3 : St → Option (List UInt8)) (n : Nat) (s3 : (List UInt8)) (t8 : (List D25)) (t9 : Int) (t10 : Int) (t21 : (List (List UInt8))) (t22 : Int) (t23 : Int) : Option (List UInt8) := ammoniteref10_Print.r7 K ρ3 n (ammoniteref10_Print.m7 s3 t8 t9 t10 t21 t22 t23)
theorem ammoniteref10_Print.eq (K : Nat) (l0 : (List D25)) : ammoniteref10_Print.f K (l0, ()) =
  ((ammoniteref10_Print.l3 K K ([] : List UInt8) l0 (List.length l0 : Int) (0 : Int)) : Option (List UInt8)) := by kernel_rfl
theorem ammoniteref10_Print.l3_zero (K : Nat)  (s3 : (List UInt8)) (t8 : (List D25)) (t9 : Int) (t10 : Int) : ammoniteref10_Print.l3 K 0 s3 t8 t9 t10 = none := by kernel_rfl
theorem ammoniteref10_Print.l3_succ (K : Nat)  (n : Nat) (s3 : (List UInt8)) (t8 : (List D25)) (t9 : Int) (t10 : Int) : ammoniteref10_Print.l3 K (n + 1) s3 t8 t9 t10 =
  ((bif (decide (t10 < t9)) then
    (chks [(decide ((0 : Int) ≤ t10)), (decide (t10 < (List.length t8 : Int)))]
     (chks [(catOk s3 (textOf ([(List.getD t8 (Int.toNat t10) (DTy.dflt T25)).1] : List Int)))]
      (ammoniteref10_Print.l7 K (ammoniteref10_Print.r3 K n) K (s3 ++ (textOf ([(List.getD t8 (Int.toNat t10) (DTy.dflt T25)).1] : List Int))) t8 t9 t10 (List.getD t8 (Int.toNat t10) (DTy.dflt T25)).2.1 (List.length (List.getD t8 (Int.toNat t10) (DTy.dflt T25)).2.1 : Int) (0 : Int))))
  else
    (chks [(catOk s3 ([90, 32] : List UInt8))]
     ((ammoniteref1_Sum.f K (s3, ())).bind fun v_1 =>
      (chks [(catOk (s3 ++ ([90, 32] : List UInt8)) v_1)]
       (chks [(catOk ((s3 ++ ([90, 32] : List UInt8)) ++ v_1) ([10] : List UInt8))]
        (some (((s3 ++ ([90, 32] : List UInt8)) ++ v_1) ++ ([10] : List UInt8)))))))) : Option (List UInt8)) := by kernel_rfl
theorem ammoniteref10_Print.l7_zero (K : Nat) (ρ3 : St → Option (List UInt8)) (s3 : (List UInt8)) (t8 : (List D25)) (t9 : Int) (t10 : Int) (t21 : (List (List UInt8))) (t22 : Int) (t23 : Int) : ammoniteref10_Print.l7 K ρ3 0 s3 t8 t9 t10 t21 t22 t23 = none := by kernel_rfl
theorem ammoniteref10_Print.l7_succ (K : Nat) (ρ3 : St → Option (List UInt8)) (n : Nat) (s3 : (List UInt8)) (t8 : (List D25)) (t9 : Int) (t10 : Int) (t21 : (List (List UInt8))) (t22 : Int) (t23 : Int) : ammoniteref10_Print.l7 K ρ3 (n + 1) s3 t8 t9 t10 t21 t22 t23 =
  ((bif (decide (t23 < t22)) then
    (chks [(decide ((0 : Int) ≤ t23)), (decide (t23 < (List.length t21 : Int)))]
     (chks [(catOk s3 ([32] : List UInt8))]
      (chks [(catOk (s3 ++ ([32] : List UInt8)) (List.getD t21 (Int.toNat t23) (DTy.dflt .str)))]
       (ammoniteref10_Print.l7 K ρ3 n ((s3 ++ ([32] : List UInt8)) ++ (List.getD t21 (Int.toNat t23) (DTy.dflt .str))) t8 t9 t10 t21 t22 (IntKind.wrap .i64 (t23 + (1 : Int)))))))
  else
    (chks [(catOk s3 ([10] : List UInt8))]
     (ρ3 (ammoniteref10_Print.m3 (s3 ++ ([10] : List UInt8)) t8 t9 (IntKind.wrap .i64 (t10 + (1 : Int))))))) : Option (List UInt8)) := by kernel_rfl
theorem ammoniteref10_Print.tbOk (K : Nat) : TbOk Try.prog (ammoniteref10_Print.tb K) := by
  intro e he
  simp only [ammoniteref10_Print.tb, List.mem_cons, List.not_mem_nil, or_false] at he
  rcases he with rfl
  · exact ⟨ammoniteref1_Sum.ok K, enters_of Try.func28 (by kernel_rfl) rfl⟩

theorem ammoniteref10_Print.itsOk : ItbOk Try.prog ammoniteref10_Print.its := by
  intro e he
  simp only [ammoniteref10_Print.its, List.mem_cons, List.not_mem_nil, or_false] at he

theorem ammoniteref10_Print.ok (K : Nat) : PureC Try.prog 15 ⟨[(.slice T25)], [.str], ammoniteref10_Print.f K⟩ :=
  fn_sound (itOk _ _) (E := ammoniteref10_Print.E K) (full_ok tys_ok ammoniteref10_Print.itsOk (ammoniteref10_Print.tbOk K) par_ok bld_ok bty_ok) mixed Try.func15 (c := ammoniteref10_Print.code) (by kernel_rfl) (by kernel_rfl) (by decide) (by kernel_rfl)
/-! ### ammonite/ammonitelaw11.same: function 16 -/
noncomputable def ammonitelaw11_same.tb (K : Nat) : Tb := [(14, ⟨[(.slice .str), (.slice .str)], [.bool], ammonitebook_Same_string.f K⟩)]
noncomputable def ammonitelaw11_same.its : Itb := []
noncomputable def ammonitelaw11_same.code : Code := (Try.f16.body).getD .skip
noncomputable def ammonitelaw11_same.nm : Nat → NormSpec := lookN [(4, ⟨[(0, (.data (.slice T25))), (1, (.data (.slice T25))), (12, (.data (.int .i64))), (13, (.data (.int .i64)))], [], []⟩)]
noncomputable def ammonitelaw11_same.pre : Nat → Option NormSpec := lookP []
noncomputable def ammonitelaw11_same.E (K : Nat) : Env := ⟨lookR tys, bty, fullCall ammonitelaw11_same.its (ammonitelaw11_same.tb K) bids⟩
noncomputable def ammonitelaw11_same.ret (K : Nat) : St → Option (resT [.bool]).den := retA (ammonitelaw11_same.E K) [.bool] [(.tmp 4)]
noncomputable def ammonitelaw11_same.C (K : Nat) : CEnv (resT [.bool]).den := ⟨ammonitelaw11_same.E K, 42, K, ammonitelaw11_same.nm, ammonitelaw11_same.ret K, [], fun _ => false, ammonitelaw11_same.pre⟩
noncomputable def ammonitelaw11_same.f (K : Nat) (x : (prodT [(.slice T25), (.slice T25)]).den) : Option (resT [.bool]).den := exec ammonitelaw11_same.code (ammonitelaw11_same.C K) (ammonitelaw11_same.ret K) (init [(.slice T25), (.slice T25)] x)
noncomputable def ammonitelaw11_same.m4 (a0 : (List D25)) (b1 : (List D25)) (t12 : Int) (t13 : Int) : St := mkSt [(0, (.d (.slice T25) (a0 : (List D25)))), (1, (.d (.slice T25) (b1 : (List D25)))), (12, (.d (.int .i64) (t12 : Int))), (13, (.d (.int .i64) (t13 : Int)))] []
noncomputable def ammonitelaw11_same.r4 (K : Nat)  (n : Nat) : St → Option Bool := loopAt [.r, .r, .l, .r, .b] ammonitelaw11_same.code (ammonitelaw11_same.C K) (ammonitelaw11_same.ret K) [] n
noncomputable def ammonitelaw11_same.l4 (K : Nat)  (n : Nat) (a0 : (List D25)) (b1 : (List D25)) (t12 : Int) (t13 : Int) : Option Bool := ammonitelaw11_same.r4 K n (ammonitelaw11_same.m4 a0 b1 t12 t13)
theorem ammonitelaw11_same.eq (K : Nat) (a0 : (List D25)) (b1 : (List D25)) : ammonitelaw11_same.f K (a0, b1, ()) =
  ((bif (!(decide ((List.length a0 : Int) = (List.length b1 : Int)))) then
    (some false)
  else
    (ammonitelaw11_same.l4 K K a0 b1 (List.length a0 : Int) (0 : Int))) : Option Bool) := by kernel_rfl
theorem ammonitelaw11_same.l4_zero (K : Nat)  (a0 : (List D25)) (b1 : (List D25)) (t12 : Int) (t13 : Int) : ammonitelaw11_same.l4 K 0 a0 b1 t12 t13 = none := by kernel_rfl
theorem ammonitelaw11_same.l4_succ (K : Nat)  (n : Nat) (a0 : (List D25)) (b1 : (List D25)) (t12 : Int) (t13 : Int) : ammonitelaw11_same.l4 K (n + 1) a0 b1 t12 t13 =
  ((bif (decide (t13 < t12)) then
    (chks [(decide ((0 : Int) ≤ t13)), (decide (t13 < (List.length a0 : Int)))]
     (chks [(decide ((0 : Int) ≤ t13)), (decide (t13 < (List.length b1 : Int)))]
      (bif (!(decide ((List.getD a0 (Int.toNat t13) (DTy.dflt T25)).1 = (List.getD b1 (Int.toNat t13) (DTy.dflt T25)).1))) then
        (some false)
      else
        (chks [(decide ((0 : Int) ≤ t13)), (decide (t13 < (List.length a0 : Int)))]
         (chks [(decide ((0 : Int) ≤ t13)), (decide (t13 < (List.length b1 : Int)))]
          ((ammonitebook_Same_string.f K ((List.getD a0 (Int.toNat t13) (DTy.dflt T25)).2.1, (List.getD b1 (Int.toNat t13) (DTy.dflt T25)).2.1, ())).bind fun v_1 =>
           (bif (!v_1) then
             (some false)
           else
             (ammonitelaw11_same.l4 K n a0 b1 t12 (IntKind.wrap .i64 (t13 + (1 : Int)))))))))))
  else
    (some true)) : Option Bool) := by kernel_rfl
theorem ammonitelaw11_same.tbOk (K : Nat) : TbOk Try.prog (ammonitelaw11_same.tb K) := by
  intro e he
  simp only [ammonitelaw11_same.tb, List.mem_cons, List.not_mem_nil, or_false] at he
  rcases he with rfl
  · exact ⟨ammonitebook_Same_string.ok K, enters_of Try.func14 (by kernel_rfl) rfl⟩

theorem ammonitelaw11_same.itsOk : ItbOk Try.prog ammonitelaw11_same.its := by
  intro e he
  simp only [ammonitelaw11_same.its, List.mem_cons, List.not_mem_nil, or_false] at he

theorem ammonitelaw11_same.ok (K : Nat) : PureC Try.prog 16 ⟨[(.slice T25), (.slice T25)], [.bool], ammonitelaw11_same.f K⟩ :=
  fn_sound (itOk _ _) (E := ammonitelaw11_same.E K) (full_ok tys_ok ammonitelaw11_same.itsOk (ammonitelaw11_same.tbOk K) par_ok bld_ok bty_ok) mixed Try.func16 (c := ammonitelaw11_same.code) (by kernel_rfl) (by kernel_rfl) (by decide) (by kernel_rfl)
/-! ### ammonite/ammonitebook.Within: function 17 -/
noncomputable def ammonitebook_Within.tb (K : Nat) : Tb := []
noncomputable def ammonitebook_Within.its : Itb := []
noncomputable def ammonitebook_Within.code : Code := (Try.f17.body).getD .skip
noncomputable def ammonitebook_Within.nm : Nat → NormSpec := lookN []
noncomputable def ammonitebook_Within.pre : Nat → Option NormSpec := lookP []
noncomputable def ammonitebook_Within.E (K : Nat) : Env := ⟨lookR tys, bty, fullCall ammonitebook_Within.its (ammonitebook_Within.tb K) bids⟩
noncomputable def ammonitebook_Within.ret (K : Nat) : St → Option (resT [(.int .i64)]).den := retA (ammonitebook_Within.E K) [(.int .i64)] [(.tmp 6)]
noncomputable def ammonitebook_Within.C (K : Nat) : CEnv (resT [(.int .i64)]).den := ⟨ammonitebook_Within.E K, 24, K, ammonitebook_Within.nm, ammonitebook_Within.ret K, [], fun _ => false, ammonitebook_Within.pre⟩
noncomputable def ammonitebook_Within.f (K : Nat) (x : (prodT [(.int .i64), (.int .i64), (.int .i64)]).den) : Option (resT [(.int .i64)]).den := exec ammonitebook_Within.code (ammonitebook_Within.C K) (ammonitebook_Within.ret K) (init [(.int .i64), (.int .i64), (.int .i64)] x)
theorem ammonitebook_Within.eq (K : Nat) (n0 : Int) (lo1 : Int) (hi2 : Int) : ammonitebook_Within.f K (n0, lo1, hi2, ()) =
  ((chks [(!(decide ((IntKind.wrap .i64 ((IntKind.wrap .i64 (hi2 - lo1)) + (1 : Int))) = (0 : Int))))]
   (bif (decide ((Int.tmod n0 (IntKind.wrap .i64 ((IntKind.wrap .i64 (hi2 - lo1)) + (1 : Int)))) < (0 : Int))) then
     (some (IntKind.wrap .i64 (lo1 + (IntKind.wrap .i64 ((IntKind.wrap .i64 ((IntKind.wrap .i64 ((Int.tmod n0 (IntKind.wrap .i64 ((IntKind.wrap .i64 (hi2 - lo1)) + (1 : Int)))) + hi2)) - lo1)) + (1 : Int))))))
   else
     (some (IntKind.wrap .i64 (lo1 + (Int.tmod n0 (IntKind.wrap .i64 ((IntKind.wrap .i64 (hi2 - lo1)) + (1 : Int))))))))) : Option Int) := by kernel_rfl
theorem ammonitebook_Within.tbOk (K : Nat) : TbOk Try.prog (ammonitebook_Within.tb K) := by
  intro e he
  simp only [ammonitebook_Within.tb, List.mem_cons, List.not_mem_nil, or_false] at he

theorem ammonitebook_Within.itsOk : ItbOk Try.prog ammonitebook_Within.its := by
  intro e he
  simp only [ammonitebook_Within.its, List.mem_cons, List.not_mem_nil, or_false] at he

theorem ammonitebook_Within.ok (K : Nat) : PureC Try.prog 17 ⟨[(.int .i64), (.int .i64), (.int .i64)], [(.int .i64)], ammonitebook_Within.f K⟩ :=
  fn_sound (itOk _ _) (E := ammonitebook_Within.E K) (full_ok tys_ok ammonitebook_Within.itsOk (ammonitebook_Within.tbOk K) par_ok bld_ok bty_ok) mixed Try.func17 (c := ammonitebook_Within.code) (by kernel_rfl) (by kernel_rfl) (by decide) (by kernel_rfl)
/-! ### ammonite/ammoniteref10.words: function 29 -/
noncomputable def ammoniteref10_words.tb (K : Nat) : Tb := []
noncomputable def ammoniteref10_words.its : Itb := []
noncomputable def ammoniteref10_words.code : Code := (Try.f29.body).getD .skip
noncomputable def ammoniteref10_words.nm : Nat → NormSpec := lookN [(4, ⟨[(0, (.data .str)), (3, (.vec .str)), (4, (.data (.int .i64))), (5, (.data (.int .i64)))], [], []⟩)]
noncomputable def ammoniteref10_words.pre : Nat → Option NormSpec := lookP []
noncomputable def ammoniteref10_words.E (K : Nat) : Env := ⟨lookR tys, bty, fullCall ammoniteref10_words.its (ammoniteref10_words.tb K) bids⟩
noncomputable def ammoniteref10_words.ret (K : Nat) : St → Option (resT [(.slice .str)]).den := retA (ammoniteref10_words.E K) [(.slice .str)] [(.tmp 2)]
noncomputable def ammoniteref10_words.C (K : Nat) : CEnv (resT [(.slice .str)]).den := ⟨ammoniteref10_words.E K, 32, K, ammoniteref10_words.nm, ammoniteref10_words.ret K, [], fun _ => false, ammoniteref10_words.pre⟩
noncomputable def ammoniteref10_words.f (K : Nat) (x : (prodT [.str]).den) : Option (resT [(.slice .str)]).den := exec ammoniteref10_words.code (ammoniteref10_words.C K) (ammoniteref10_words.ret K) (init [.str] x)
noncomputable def ammoniteref10_words.m4 (s0 : (List UInt8)) (out3 : (List (List UInt8))) (begin4 : Int) (i5 : Int) : St := mkSt [(0, (.d .str (s0 : (List UInt8)))), (3, (.vs 3 0 .str (out3 : List (List UInt8)))), (4, (.d (.int .i64) (begin4 : Int))), (5, (.d (.int .i64) (i5 : Int)))] [(3, (.vec .str 0))]
noncomputable def ammoniteref10_words.r4 (K : Nat)  (n : Nat) : St → Option (List (List UInt8)) := loopAt [.r, .r, .r, .l, .r, .b] ammoniteref10_words.code (ammoniteref10_words.C K) (ammoniteref10_words.ret K) [] n
noncomputable def ammoniteref10_words.l4 (K : Nat)  (n : Nat) (s0 : (List UInt8)) (out3 : (List (List UInt8))) (begin4 : Int) (i5 : Int) : Option (List (List UInt8)) := ammoniteref10_words.r4 K n (ammoniteref10_words.m4 s0 out3 begin4 i5)
theorem ammoniteref10_words.eq (K : Nat) (s0 : (List UInt8)) : ammoniteref10_words.f K (s0, ()) =
  ((ammoniteref10_words.l4 K K s0 ([] : (List (List UInt8))) (0 : Int) (0 : Int)) : Option (List (List UInt8))) := by kernel_rfl
theorem ammoniteref10_words.l4_zero (K : Nat)  (s0 : (List UInt8)) (out3 : (List (List UInt8))) (begin4 : Int) (i5 : Int) : ammoniteref10_words.l4 K 0 s0 out3 begin4 i5 = none := by kernel_rfl
theorem ammoniteref10_words.l4_succ (K : Nat)  (n : Nat) (s0 : (List UInt8)) (out3 : (List (List UInt8))) (begin4 : Int) (i5 : Int) : ammoniteref10_words.l4 K (n + 1) s0 out3 begin4 i5 =
  ((bif (decide (i5 ≤ (List.length s0 : Int))) then
    (bif (decide (i5 = (List.length s0 : Int))) then
      (chks [(decide ((0 : Int) ≤ i5)), (decide (i5 ≤ (List.length s0 : Int))), (decide ((0 : Int) ≤ begin4)), (decide (begin4 ≤ i5))]
       (chks [(growOk (List.length out3) (List.length ([(cutL s0 (some begin4) (some i5))] : List (List UInt8))) 16)]
        (ammoniteref10_words.l4 K n s0 (out3 ++ ([(cutL s0 (some begin4) (some i5))] : List (List UInt8))) (IntKind.wrap .i64 (i5 + (1 : Int))) (IntKind.wrap .i64 (i5 + (1 : Int))))))
    else
      (chks [(decide ((0 : Int) ≤ i5)), (decide (i5 < (List.length s0 : Int)))]
       (bif (decide (((List.getD s0 (Int.toNat i5) 0).toNat : Int) = (32 : Int))) then
         (chks [(decide ((0 : Int) ≤ i5)), (decide (i5 ≤ (List.length s0 : Int))), (decide ((0 : Int) ≤ begin4)), (decide (begin4 ≤ i5))]
          (chks [(growOk (List.length out3) (List.length ([(cutL s0 (some begin4) (some i5))] : List (List UInt8))) 16)]
           (ammoniteref10_words.l4 K n s0 (out3 ++ ([(cutL s0 (some begin4) (some i5))] : List (List UInt8))) (IntKind.wrap .i64 (i5 + (1 : Int))) (IntKind.wrap .i64 (i5 + (1 : Int))))))
       else
         (ammoniteref10_words.l4 K n s0 out3 begin4 (IntKind.wrap .i64 (i5 + (1 : Int)))))))
  else
    (some out3)) : Option (List (List UInt8))) := by kernel_rfl
theorem ammoniteref10_words.tbOk (K : Nat) : TbOk Try.prog (ammoniteref10_words.tb K) := by
  intro e he
  simp only [ammoniteref10_words.tb, List.mem_cons, List.not_mem_nil, or_false] at he

theorem ammoniteref10_words.itsOk : ItbOk Try.prog ammoniteref10_words.its := by
  intro e he
  simp only [ammoniteref10_words.its, List.mem_cons, List.not_mem_nil, or_false] at he

theorem ammoniteref10_words.ok (K : Nat) : PureC Try.prog 29 ⟨[.str], [(.slice .str)], ammoniteref10_words.f K⟩ :=
  fn_sound (itOk _ _) (E := ammoniteref10_words.E K) (full_ok tys_ok ammoniteref10_words.itsOk (ammoniteref10_words.tbOk K) par_ok bld_ok bty_ok) mixed Try.func29 (c := ammoniteref10_words.code) (by kernel_rfl) (by kernel_rfl) (by decide) (by kernel_rfl)
/-! ### ammonite/ammoniteref10.Cards: function 18 -/
noncomputable def ammoniteref10_Cards.tb (K : Nat) : Tb := [(29, ⟨[.str], [(.slice .str)], ammoniteref10_words.f K⟩), (28, ⟨[.str], [.str], ammoniteref1_Sum.f K⟩)]
noncomputable def ammoniteref10_Cards.its : Itb := []
noncomputable def ammoniteref10_Cards.code : Code := (Try.f18.body).getD .skip
noncomputable def ammoniteref10_Cards.nm : Nat → NormSpec := lookN [(3, ⟨[(0, (.data .str)), (4, (.vec T25)), (5, (.data (.int .i64))), (6, (.data (.int .i64)))], [], []⟩), (13, ⟨[(0, (.data .str)), (4, (.vec T25)), (5, (.data (.int .i64))), (6, (.data (.int .i64))), (8, .raw), (59, (.data (.slice .str))), (60, (.data (.int .i64))), (61, (.data (.int .i64)))], [(8, [(.data (.int .u8)), (.data (.slice .str))])], []⟩)]
noncomputable def ammoniteref10_Cards.pre : Nat → Option NormSpec := lookP [(9, ⟨[(0, (.data .str)), (4, (.vec T25)), (5, (.data (.int .i64))), (6, (.data (.int .i64))), (7, (.data .str))], [], []⟩)]
noncomputable def ammoniteref10_Cards.E (K : Nat) : Env := ⟨lookR tys, bty, fullCall ammoniteref10_Cards.its (ammoniteref10_Cards.tb K) bids⟩
noncomputable def ammoniteref10_Cards.ret (K : Nat) : St → Option (resT [(.slice T25), .bool]).den := retA (ammoniteref10_Cards.E K) [(.slice T25), .bool] [(.tmp 2), (.tmp 3)]
noncomputable def ammoniteref10_Cards.C (K : Nat) : CEnv (resT [(.slice T25), .bool]).den := ⟨ammoniteref10_Cards.E K, 121, K, ammoniteref10_Cards.nm, ammoniteref10_Cards.ret K, [], fun _ => false, ammoniteref10_Cards.pre⟩
noncomputable def ammoniteref10_Cards.f (K : Nat) (x : (prodT [.str]).den) : Option (resT [(.slice T25), .bool]).den := exec ammoniteref10_Cards.code (ammoniteref10_Cards.C K) (ammoniteref10_Cards.ret K) (init [.str] x)
noncomputable def ammoniteref10_Cards.m3 (s0 : (List UInt8)) (out4 : (List D25)) (at5 : Int) (begin6 : Int) : St := mkSt [(0, (.d .str (s0 : (List UInt8)))), (4, (.vs 4 0 T25 (out4 : List D25))), (5, (.d (.int .i64) (at5 : Int))), (6, (.d (.int .i64) (begin6 : Int)))] [(4, (.vec T25 0))]
noncomputable def ammoniteref10_Cards.r3 (K : Nat)  (n : Nat) : St → Option ((List D25) × Bool × Unit) := loopAt [.r, .r, .r, .l, .b] ammoniteref10_Cards.code (ammoniteref10_Cards.C K) (ammoniteref10_Cards.ret K) [] n
noncomputable def ammoniteref10_Cards.l3 (K : Nat)  (n : Nat) (s0 : (List UInt8)) (out4 : (List D25)) (at5 : Int) (begin6 : Int) : Option ((List D25) × Bool × Unit) := ammoniteref10_Cards.r3 K n (ammoniteref10_Cards.m3 s0 out4 at5 begin6)
noncomputable def ammoniteref10_Cards.m13 (s0 : (List UInt8)) (out4 : (List D25)) (at5 : Int) (begin6 : Int) (t59 : (List (List UInt8))) (t60 : Int) (t61 : Int) (bc8_0 : Int) (bc8_1 : (List (List UInt8))) : St := mkSt [(0, (.d .str (s0 : (List UInt8)))), (4, (.vs 4 0 T25 (out4 : List D25))), (5, (.d (.int .i64) (at5 : Int))), (6, (.d (.int .i64) (begin6 : Int))), (8, (.ptr 8 0)), (59, (.d (.slice .str) (t59 : (List (List UInt8))))), (60, (.d (.int .i64) (t60 : Int))), (61, (.d (.int .i64) (t61 : Int)))] [(4, (.vec T25 0)), (8, (.box [(.d (.int .u8) (bc8_0 : Int)), (.d (.slice .str) (bc8_1 : (List (List UInt8))))]))]
noncomputable def ammoniteref10_Cards.r13 (K : Nat) (ρ3 : St → Option ((List D25) × Bool × Unit)) (n : Nat) : St → Option ((List D25) × Bool × Unit) := loopAt [.r, .r, .r, .l, .b, .o, .r, .b, .r, .r, .r, .r, .r, .l, .r, .b] ammoniteref10_Cards.code (ammoniteref10_Cards.C K) (ammoniteref10_Cards.ret K) [ρ3] n
noncomputable def ammoniteref10_Cards.l13 (K : Nat) (ρ3 : St → Option ((List D25) × Bool × Unit)) (n : Nat) (s0 : (List UInt8)) (out4 : (List D25)) (at5 : Int) (begin6 : Int) (t59 : (List (List UInt8))) (t60 : Int) (t61 : Int) (bc8_0 : Int) (bc8_1 : (List (List UInt8))) : Option ((List D25) × Bool × Unit) := ammoniteref10_Cards.r13 K ρ3 n (ammoniteref10_Cards.m13 s0 out4 at5 begin6 t59 t60 t61 bc8_0 bc8_1)
noncomputable def ammoniteref10_Cards.mj9 (s0 : (List UInt8)) (out4 : (List D25)) (at5 : Int) (begin6 : Int) (line7 : (List UInt8)) : St := mkSt [(0, (.d .str (s0 : (List UInt8)))), (4, (.vs 4 0 T25 (out4 : List D25))), (5, (.d (.int .i64) (at5 : Int))), (6, (.d (.int .i64) (begin6 : Int))), (7, (.d .str (line7 : (List UInt8))))] [(4, (.vec T25 0))]
noncomputable def ammoniteref10_Cards.j9 (K : Nat) (ρ3 : St → Option ((List D25) × Bool × Unit)) (s0 : (List UInt8)) (out4 : (List D25)) (at5 : Int) (begin6 : Int) (line7 : (List UInt8)) : Option ((List D25) × Bool × Unit) := pointAt [.r, .r, .r, .l, .b, .o, .r, .b, .r, .r, .r, .l] ammoniteref10_Cards.code (ammoniteref10_Cards.C K) (ammoniteref10_Cards.ret K) [ρ3] (ammoniteref10_Cards.mj9 s0 out4 at5 begin6 line7)
theorem ammoniteref10_Cards.eq (K : Nat) (s0 : (List UInt8)) : ammoniteref10_Cards.f K (s0, ()) =
  ((ammoniteref10_Cards.l3 K K s0 ([] : (List D25)) (0 : Int) (0 : Int)) : Option ((List D25) × Bool × Unit)) := by kernel_rfl
theorem ammoniteref10_Cards.l3_zero (K : Nat)  (s0 : (List UInt8)) (out4 : (List D25)) (at5 : Int) (begin6 : Int) : ammoniteref10_Cards.l3 K 0 s0 out4 at5 begin6 = none := by kernel_rfl
theorem ammoniteref10_Cards.l3_succ (K : Nat)  (n : Nat) (s0 : (List UInt8)) (out4 : (List D25)) (at5 : Int) (begin6 : Int) : ammoniteref10_Cards.l3 K (n + 1) s0 out4 at5 begin6 =
  ((bif (decide (at5 < (List.length s0 : Int))) then
    (chks [(decide ((0 : Int) ≤ at5)), (decide (at5 < (List.length s0 : Int)))]
     (bif (!(decide (((List.getD s0 (Int.toNat at5) 0).toNat : Int) = (10 : Int)))) then
       (ammoniteref10_Cards.l3 K n s0 out4 (IntKind.wrap .i64 (at5 + (1 : Int))) begin6)
     else
       (chks [(decide ((0 : Int) ≤ at5)), (decide (at5 ≤ (List.length s0 : Int))), (decide ((0 : Int) ≤ begin6)), (decide (begin6 ≤ at5))]
        (bif (decide ((List.length (cutL s0 (some begin6) (some at5)) : Int) < (1 : Int))) then
          (some (([] : (List D25)), false, ()))
        else
          (chks [(decide ((0 : Int) < (List.length (cutL s0 (some begin6) (some at5)) : Int)))]
           (bif (decide (((List.getD (cutL s0 (some begin6) (some at5)) (Int.toNat (0 : Int)) 0).toNat : Int) < (65 : Int))) then
             (some (([] : (List D25)), false, ()))
           else
             (chks [(decide ((0 : Int) < (List.length (cutL s0 (some begin6) (some at5)) : Int)))]
              (bif (decide ((90 : Int) < ((List.getD (cutL s0 (some begin6) (some at5)) (Int.toNat (0 : Int)) 0).toNat : Int))) then
                (some (([] : (List D25)), false, ()))
              else
                (bif (decide ((1 : Int) < (List.length (cutL s0 (some begin6) (some at5)) : Int))) then
                  (chks [(decide ((1 : Int) < (List.length (cutL s0 (some begin6) (some at5)) : Int)))]
                   (bif (!(decide (((List.getD (cutL s0 (some begin6) (some at5)) (Int.toNat (1 : Int)) 0).toNat : Int) = (32 : Int)))) then
                     (some (([] : (List D25)), false, ()))
                   else
                     (ammoniteref10_Cards.j9 K (ammoniteref10_Cards.r3 K n) s0 out4 at5 begin6 (cutL s0 (some begin6) (some at5)))))
                else
                  (ammoniteref10_Cards.j9 K (ammoniteref10_Cards.r3 K n) s0 out4 at5 begin6 (cutL s0 (some begin6) (some at5))))))))))))
  else
    (some (([] : (List D25)), false, ()))) : Option ((List D25) × Bool × Unit)) := by kernel_rfl
theorem ammoniteref10_Cards.l13_zero (K : Nat) (ρ3 : St → Option ((List D25) × Bool × Unit)) (s0 : (List UInt8)) (out4 : (List D25)) (at5 : Int) (begin6 : Int) (t59 : (List (List UInt8))) (t60 : Int) (t61 : Int) (bc8_0 : Int) (bc8_1 : (List (List UInt8))) : ammoniteref10_Cards.l13 K ρ3 0 s0 out4 at5 begin6 t59 t60 t61 bc8_0 bc8_1 = none := by kernel_rfl
theorem ammoniteref10_Cards.l13_succ (K : Nat) (ρ3 : St → Option ((List D25) × Bool × Unit)) (n : Nat) (s0 : (List UInt8)) (out4 : (List D25)) (at5 : Int) (begin6 : Int) (t59 : (List (List UInt8))) (t60 : Int) (t61 : Int) (bc8_0 : Int) (bc8_1 : (List (List UInt8))) : ammoniteref10_Cards.l13 K ρ3 (n + 1) s0 out4 at5 begin6 t59 t60 t61 bc8_0 bc8_1 =
  ((bif (decide (t61 < t60)) then
    (chks [(decide ((0 : Int) ≤ t61)), (decide (t61 < (List.length t59 : Int)))]
     (bif (decide ((List.getD t59 (Int.toNat t61) (DTy.dflt .str)) = ([] : List UInt8))) then
       (some (([] : (List D25)), false, ()))
     else
       (ammoniteref10_Cards.l13 K ρ3 n s0 out4 at5 begin6 t59 t60 (IntKind.wrap .i64 (t61 + (1 : Int))) bc8_0 bc8_1)))
  else
    (bif (decide (bc8_0 = (90 : Int))) then
      (bif (!(decide ((IntKind.wrap .i64 (at5 + (1 : Int))) = (List.length s0 : Int)))) then
        (some (([] : (List D25)), false, ()))
      else
        (bif (!(decide ((List.length bc8_1 : Int) = (1 : Int)))) then
          (some (([] : (List D25)), false, ()))
        else
          (chks [(decide ((0 : Int) < (List.length bc8_1 : Int)))]
           (chks [(decide ((0 : Int) ≤ begin6)), (decide (begin6 ≤ (List.length s0 : Int)))]
            ((ammoniteref1_Sum.f K ((cutL s0 none (some begin6)), ())).bind fun v_1 =>
             (bif (!(decide ((List.getD bc8_1 (Int.toNat (0 : Int)) (DTy.dflt .str)) = v_1))) then
               (some (([] : (List D25)), false, ()))
             else
               (bif (decide ((List.length out4 : Int) = (0 : Int))) then
                 (some (([] : (List D25)), false, ()))
               else
                 (some (out4, true, ())))))))))
    else
      (bif (decide ((0 : Int) < (List.length out4 : Int))) then
        (chks [(decide ((0 : Int) ≤ (IntKind.wrap .i64 ((List.length out4 : Int) - (1 : Int))))), (decide ((IntKind.wrap .i64 ((List.length out4 : Int) - (1 : Int))) < (List.length out4 : Int)))]
         (bif (decide (bc8_0 < (List.getD out4 (Int.toNat (IntKind.wrap .i64 ((List.length out4 : Int) - (1 : Int)))) (DTy.dflt T25)).1)) then
           (some (([] : (List D25)), false, ()))
         else
           (chks [(growOk (List.length out4) (List.length ([(bc8_0, (bc8_1, ()))] : List D25)) 32)]
            (ρ3 (ammoniteref10_Cards.m3 s0 (out4 ++ ([(bc8_0, (bc8_1, ()))] : List D25)) (IntKind.wrap .i64 (at5 + (1 : Int))) (IntKind.wrap .i64 (at5 + (1 : Int))))))))
      else
        (chks [(growOk (List.length out4) (List.length ([(bc8_0, (bc8_1, ()))] : List D25)) 32)]
         (ρ3 (ammoniteref10_Cards.m3 s0 (out4 ++ ([(bc8_0, (bc8_1, ()))] : List D25)) (IntKind.wrap .i64 (at5 + (1 : Int))) (IntKind.wrap .i64 (at5 + (1 : Int))))))))) : Option ((List D25) × Bool × Unit)) := by kernel_rfl
theorem ammoniteref10_Cards.j9_eq {K : Nat} (hK : 0 < K) (ρ3 : St → Option ((List D25) × Bool × Unit)) (s0 : (List UInt8)) (out4 : (List D25)) (at5 : Int) (begin6 : Int) (line7 : (List UInt8)) : ammoniteref10_Cards.j9 K ρ3 s0 out4 at5 begin6 line7 =
  ((chks [(decide ((0 : Int) < (List.length line7 : Int)))]
   (bif (decide ((1 : Int) < (List.length line7 : Int))) then
     (chks [(decide ((2 : Int) ≤ (List.length line7 : Int)))]
      ((ammoniteref10_words.f K ((cutL line7 (some (2 : Int)) none), ())).bind fun v_1 =>
       (ammoniteref10_Cards.l13 K ρ3 K s0 out4 at5 begin6 v_1 (List.length v_1 : Int) (0 : Int) ((List.getD line7 (Int.toNat (0 : Int)) 0).toNat : Int) v_1)))
   else
     (ammoniteref10_Cards.l13 K ρ3 K s0 out4 at5 begin6 ([] : (List (List UInt8))) (List.length ([] : (List (List UInt8))) : Int) (0 : Int) ((List.getD line7 (Int.toNat (0 : Int)) 0).toNat : Int) ([] : (List (List UInt8)))))) : Option ((List D25) × Bool × Unit)) := by
  cases K with
  | zero => exact absurd hK (Nat.lt_irrefl 0)
  | succ K => kernel_rfl
theorem ammoniteref10_Cards.tbOk (K : Nat) : TbOk Try.prog (ammoniteref10_Cards.tb K) := by
  intro e he
  simp only [ammoniteref10_Cards.tb, List.mem_cons, List.not_mem_nil, or_false] at he
  rcases he with rfl | rfl
  · exact ⟨ammoniteref10_words.ok K, enters_of Try.func29 (by kernel_rfl) rfl⟩
  · exact ⟨ammoniteref1_Sum.ok K, enters_of Try.func28 (by kernel_rfl) rfl⟩

theorem ammoniteref10_Cards.itsOk : ItbOk Try.prog ammoniteref10_Cards.its := by
  intro e he
  simp only [ammoniteref10_Cards.its, List.mem_cons, List.not_mem_nil, or_false] at he

theorem ammoniteref10_Cards.ok (K : Nat) : PureC Try.prog 18 ⟨[.str], [(.slice T25), .bool], ammoniteref10_Cards.f K⟩ :=
  fn_sound (itOk _ _) (E := ammoniteref10_Cards.E K) (full_ok tys_ok ammoniteref10_Cards.itsOk (ammoniteref10_Cards.tbOk K) par_ok bld_ok bty_ok) mixed Try.func18 (c := ammoniteref10_Cards.code) (by kernel_rfl) (by kernel_rfl) (by decide) (by kernel_rfl)
/-! ### ammonite/ammonitelaw11.CardRuns: function 3 -/
noncomputable def ammonitelaw11_CardRuns.tb (K : Nat) : Tb := [(8, ⟨[(.slice T25)], [.str], card_Print.f K⟩), (9, ⟨[.str], [(.slice T25), .bool], card_Read.f K⟩), (10, ⟨[(.slice T25), (.int .u8)], [(.slice .str), (.int .i64)], card_One.f K⟩)]
noncomputable def ammonitelaw11_CardRuns.its : Itb := []
noncomputable def ammonitelaw11_CardRuns.code : Code := (Try.f3.body).getD .skip
noncomputable def ammonitelaw11_CardRuns.nm : Nat → NormSpec := lookN []
noncomputable def ammonitelaw11_CardRuns.pre : Nat → Option NormSpec := lookP []
noncomputable def ammonitelaw11_CardRuns.E (K : Nat) : Env := ⟨lookR tys, bty, fullCall ammonitelaw11_CardRuns.its (ammonitelaw11_CardRuns.tb K) bids⟩
noncomputable def ammonitelaw11_CardRuns.ret (K : Nat) : St → Option (resT [.bool]).den := retA (ammonitelaw11_CardRuns.E K) [.bool] [(.tmp 0)]
noncomputable def ammonitelaw11_CardRuns.C (K : Nat) : CEnv (resT [.bool]).den := ⟨ammonitelaw11_CardRuns.E K, 57, K, ammonitelaw11_CardRuns.nm, ammonitelaw11_CardRuns.ret K, [], fun _ => false, ammonitelaw11_CardRuns.pre⟩
noncomputable def ammonitelaw11_CardRuns.f (K : Nat) (x : (prodT []).den) : Option (resT [.bool]).den := exec ammonitelaw11_CardRuns.code (ammonitelaw11_CardRuns.C K) (ammonitelaw11_CardRuns.ret K) (init [] x)
theorem ammonitelaw11_CardRuns.eq (K : Nat)  : ammonitelaw11_CardRuns.f K (()) =
  (((card_Print.f K (([((67 : Int), (([([120] : List UInt8)] : List (List UInt8)), ())), ((85 : Int), (([([109, 101] : List UInt8)] : List (List UInt8)), ()))] : List D25), ())).bind fun v_1 =>
   ((card_Read.f K (v_1, ())).bind fun v_2 =>
    ((card_One.f K (v_2.1, (85 : Int), ())).bind fun v_3 =>
     (bif (decide ((List.length v_1 : Int) = (52 : Int))) then
       (chks [(decide ((9 : Int) ≤ (List.length v_1 : Int)))]
        (bif (decide ((cutL v_1 none (some (9 : Int))) = ([67, 32, 120, 10, 85, 32, 109, 101, 10] : List UInt8))) then
          (bif v_2.2.1 then
            (bif (decide ((List.length v_2.1 : Int) = (2 : Int))) then
              (bif (decide (v_3.2.1 = (1 : Int))) then
                (bif (decide ((List.length v_3.1 : Int) = (1 : Int))) then
                  (chks [(decide ((0 : Int) < (List.length v_3.1 : Int)))]
                   (bif (decide ((List.getD v_3.1 (Int.toNat (0 : Int)) (DTy.dflt .str)) = ([109, 101] : List UInt8))) then
                     ((card_Print.f K (([] : (List D25)), ())).bind fun v_4 =>
                      (some (decide (v_4 = ([] : List UInt8)))))
                   else
                     (some false)))
                else
                  (some false))
              else
                (some false))
            else
              (some false))
          else
            (some false))
        else
          (some false)))
     else
       (some false))))) : Option Bool) := by kernel_rfl
theorem ammonitelaw11_CardRuns.tbOk (K : Nat) : TbOk Try.prog (ammonitelaw11_CardRuns.tb K) := by
  intro e he
  simp only [ammonitelaw11_CardRuns.tb, List.mem_cons, List.not_mem_nil, or_false] at he
  rcases he with rfl | rfl | rfl
  · exact ⟨card_Print.ok K, enters_of Try.func8 (by kernel_rfl) rfl⟩
  · exact ⟨card_Read.ok K, enters_of Try.func9 (by kernel_rfl) rfl⟩
  · exact ⟨card_One.ok K, enters_of Try.func10 (by kernel_rfl) rfl⟩

theorem ammonitelaw11_CardRuns.itsOk : ItbOk Try.prog ammonitelaw11_CardRuns.its := by
  intro e he
  simp only [ammonitelaw11_CardRuns.its, List.mem_cons, List.not_mem_nil, or_false] at he

theorem ammonitelaw11_CardRuns.ok (K : Nat) : PureC Try.prog 3 ⟨[], [.bool], ammonitelaw11_CardRuns.f K⟩ :=
  fn_sound (itOk _ _) (E := ammonitelaw11_CardRuns.E K) (full_ok tys_ok ammonitelaw11_CardRuns.itsOk (ammonitelaw11_CardRuns.tbOk K) par_ok bld_ok bty_ok) mixed Try.func3 (c := ammonitelaw11_CardRuns.code) (by kernel_rfl) (by kernel_rfl) (by decide) (by kernel_rfl)
/-! ### ammonite/ammonitelaw11.CardBack: function 4 -/
noncomputable def ammonitelaw11_CardBack.tb (K : Nat) : Tb := [(11, ⟨[(.slice T25), .bool], [(.slice T25)], ammonitelaw11_cards.f K⟩), (8, ⟨[(.slice T25)], [.str], card_Print.f K⟩), (12, ⟨[(.slice T25)], [.bool], card_Right.f K⟩), (3, ⟨[], [.bool], ammonitelaw11_CardRuns.f K⟩), (9, ⟨[.str], [(.slice T25), .bool], card_Read.f K⟩), (14, ⟨[(.slice .str), (.slice .str)], [.bool], ammonitebook_Same_string.f K⟩), (10, ⟨[(.slice T25), (.int .u8)], [(.slice .str), (.int .i64)], card_One.f K⟩), (15, ⟨[(.slice T25)], [.str], ammoniteref10_Print.f K⟩), (16, ⟨[(.slice T25), (.slice T25)], [.bool], ammonitelaw11_same.f K⟩)]
noncomputable def ammonitelaw11_CardBack.its : Itb := [(13, ⟨[(.slice T25), (.int .u8)], (.prod (.int .i64) (.prod (.slice .str) .unit)), card_Of.L⟩)]
noncomputable def ammonitelaw11_CardBack.code : Code := (Try.f4.body).getD .skip
noncomputable def ammonitelaw11_CardBack.nm : Nat → NormSpec := lookN [(5, ⟨[(5, .raw), (6, .raw), (7, .raw), (8, (.data .bool)), (9, (.vec T25)), (32, (.data (.slice T25))), (33, (.data (.int .i64))), (34, (.data (.int .i64)))], [(5, [(.data (.int .u8))]), (6, [(.data .bool)]), (7, [(.data (.slice T25))])], []⟩), (9, ⟨[(5, .raw), (6, .raw), (7, .raw), (8, (.data .bool)), (9, (.vec T25)), (11, .raw), (32, (.data (.slice T25))), (33, (.data (.int .i64))), (34, (.data (.int .i64))), (66, (.data (.slice .str))), (67, (.data (.int .i64))), (68, (.data (.int .i64)))], [(5, [(.data (.int .u8))]), (6, [(.data .bool)]), (7, [(.data (.slice T25))]), (11, [(.data (.int .u8)), (.data (.slice .str))])], []⟩), (13, ⟨[(5, .raw), (6, .raw), (7, .raw), (8, (.data .bool)), (9, (.vec T25)), (11, .raw), (13, (.data .str)), (32, (.data (.slice T25))), (33, (.data (.int .i64))), (34, (.data (.int .i64))), (66, (.data (.slice .str))), (67, (.data (.int .i64))), (68, (.data (.int .i64))), (78, (.data (.int .i64))), (79, (.data (.int .i64)))], [(5, [(.data (.int .u8))]), (6, [(.data .bool)]), (7, [(.data (.slice T25))]), (11, [(.data (.int .u8)), (.data (.slice .str))])], []⟩), (28, ⟨[(5, .raw), (6, .raw), (7, .raw), (9, (.vec T25)), (15, (.data .str)), (16, (.data (.slice T25))), (17, (.data .bool)), (18, .raw), (19, .raw)], [(5, [(.data (.int .u8))]), (6, [(.data .bool)]), (7, [(.data (.slice T25))]), (18, [(.data (.int .i64))]), (19, [(.data (.int .i64))])], []⟩), (34, ⟨[(5, .raw), (6, .raw), (7, .raw), (9, (.vec T25)), (15, (.data .str)), (16, (.data (.slice T25))), (17, (.data .bool)), (18, .raw), (162, (.data (.slice T25))), (163, (.data (.int .i64))), (164, (.data (.int .i64)))], [(5, [(.data (.int .u8))]), (6, [(.data .bool)]), (7, [(.data (.slice T25))]), (18, [(.data (.int .i64))])], []⟩), (41, ⟨[(6, .raw), (7, .raw), (9, (.vec T25)), (15, (.data .str)), (16, (.data (.slice T25))), (17, (.data .bool)), (18, .raw), (25, .raw)], [(6, [(.data .bool)]), (7, [(.data (.slice T25))]), (18, [(.data (.int .i64))]), (25, [(.data (.int .i64))])], []⟩)]
noncomputable def ammonitelaw11_CardBack.pre : Nat → Option NormSpec := lookP [(8, ⟨[(5, .raw), (6, .raw), (7, .raw), (8, (.data .bool)), (9, (.vec T25)), (11, .raw), (32, (.data (.slice T25))), (33, (.data (.int .i64))), (34, (.data (.int .i64)))], [(5, [(.data (.int .u8))]), (6, [(.data .bool)]), (7, [(.data (.slice T25))]), (11, [(.data (.int .u8)), (.data (.slice .str))])], []⟩)]
noncomputable def ammonitelaw11_CardBack.E (K : Nat) : Env := ⟨lookR tys, bty, fullCall ammonitelaw11_CardBack.its (ammonitelaw11_CardBack.tb K) bids⟩
noncomputable def ammonitelaw11_CardBack.ret (K : Nat) : St → Option (resT [.bool]).den := retA (ammonitelaw11_CardBack.E K) [.bool] [(.cell 6 4)]
noncomputable def ammonitelaw11_CardBack.C (K : Nat) : CEnv (resT [.bool]).den := ⟨ammonitelaw11_CardBack.E K, 211, K, ammonitelaw11_CardBack.nm, ammonitelaw11_CardBack.ret K, [], fun _ => false, ammonitelaw11_CardBack.pre⟩
noncomputable def ammonitelaw11_CardBack.f (K : Nat) (x : (prodT [(.slice T25), .bool, (.int .u8)]).den) : Option (resT [.bool]).den := exec ammonitelaw11_CardBack.code (ammonitelaw11_CardBack.C K) (ammonitelaw11_CardBack.ret K) (init [(.slice T25), .bool, (.int .u8)] x)
noncomputable def ammonitelaw11_CardBack.m5 (t8 : Bool) (t9 : (List D25)) (t32 : (List D25)) (t33 : Int) (t34 : Int) (ba5_0 : Int) (by6_0 : Bool) (bt7_0 : (List D25)) : St := mkSt [(5, (.ptr 5 0)), (6, (.ptr 6 0)), (7, (.ptr 7 0)), (8, (.d .bool (t8 : Bool))), (9, (.vs 9 0 T25 (t9 : List D25))), (32, (.d (.slice T25) (t32 : (List D25)))), (33, (.d (.int .i64) (t33 : Int))), (34, (.d (.int .i64) (t34 : Int)))] [(9, (.vec T25 0)), (5, (.box [(.d (.int .u8) (ba5_0 : Int))])), (6, (.box [(.d .bool (by6_0 : Bool))])), (7, (.box [(.d (.slice T25) (bt7_0 : (List D25)))]))]
noncomputable def ammonitelaw11_CardBack.r5 (K : Nat)  (n : Nat) : St → Option Bool := loopAt [.r, .r, .r, .r, .l, .r, .b] ammonitelaw11_CardBack.code (ammonitelaw11_CardBack.C K) (ammonitelaw11_CardBack.ret K) [] n
noncomputable def ammonitelaw11_CardBack.l5 (K : Nat)  (n : Nat) (t8 : Bool) (t9 : (List D25)) (t32 : (List D25)) (t33 : Int) (t34 : Int) (ba5_0 : Int) (by6_0 : Bool) (bt7_0 : (List D25)) : Option Bool := ammonitelaw11_CardBack.r5 K n (ammonitelaw11_CardBack.m5 t8 t9 t32 t33 t34 ba5_0 by6_0 bt7_0)
noncomputable def ammonitelaw11_CardBack.m28 (t9 : (List D25)) (t15 : (List UInt8)) (t16 : (List D25)) (t17 : Bool) (ba5_0 : Int) (by6_0 : Bool) (bt7_0 : (List D25)) (bt18_0 : Int) (bt19_0 : Int) : St := mkSt [(5, (.ptr 5 0)), (6, (.ptr 6 0)), (7, (.ptr 7 0)), (9, (.vs 9 0 T25 (t9 : List D25))), (15, (.d .str (t15 : (List UInt8)))), (16, (.d (.slice T25) (t16 : (List D25)))), (17, (.d .bool (t17 : Bool))), (18, (.ptr 18 0)), (19, (.ptr 19 0))] [(9, (.vec T25 0)), (5, (.box [(.d (.int .u8) (ba5_0 : Int))])), (6, (.box [(.d .bool (by6_0 : Bool))])), (7, (.box [(.d (.slice T25) (bt7_0 : (List D25)))])), (18, (.box [(.d (.int .i64) (bt18_0 : Int))])), (19, (.box [(.d (.int .i64) (bt19_0 : Int))]))]
noncomputable def ammonitelaw11_CardBack.r28 (K : Nat)  (l : List D25) : St → Option Bool := rangeAt [.r, .r, .r, .r, .r, .r, .r, .r, .r, .r, .l, .r, .b] ammonitelaw11_CardBack.code (ammonitelaw11_CardBack.C K) (ammonitelaw11_CardBack.ret K) [] (.prod (.int .i64) (.prod (.slice .str) .unit)) l
noncomputable def ammonitelaw11_CardBack.i28 (K : Nat)  (l : List D25) (t9 : (List D25)) (t15 : (List UInt8)) (t16 : (List D25)) (t17 : Bool) (ba5_0 : Int) (by6_0 : Bool) (bt7_0 : (List D25)) (bt18_0 : Int) (bt19_0 : Int) : Option Bool := ammonitelaw11_CardBack.r28 K l (ammonitelaw11_CardBack.m28 t9 t15 t16 t17 ba5_0 by6_0 bt7_0 bt18_0 bt19_0)
noncomputable def ammonitelaw11_CardBack.m9 (t8 : Bool) (t9 : (List D25)) (t32 : (List D25)) (t33 : Int) (t34 : Int) (t66 : (List (List UInt8))) (t67 : Int) (t68 : Int) (ba5_0 : Int) (by6_0 : Bool) (bt7_0 : (List D25)) (bt11_0 : Int) (bt11_1 : (List (List UInt8))) : St := mkSt [(5, (.ptr 5 0)), (6, (.ptr 6 0)), (7, (.ptr 7 0)), (8, (.d .bool (t8 : Bool))), (9, (.vs 9 0 T25 (t9 : List D25))), (11, (.ptr 11 0)), (32, (.d (.slice T25) (t32 : (List D25)))), (33, (.d (.int .i64) (t33 : Int))), (34, (.d (.int .i64) (t34 : Int))), (66, (.d (.slice .str) (t66 : (List (List UInt8))))), (67, (.d (.int .i64) (t67 : Int))), (68, (.d (.int .i64) (t68 : Int)))] [(9, (.vec T25 0)), (5, (.box [(.d (.int .u8) (ba5_0 : Int))])), (6, (.box [(.d .bool (by6_0 : Bool))])), (7, (.box [(.d (.slice T25) (bt7_0 : (List D25)))])), (11, (.box [(.d (.int .u8) (bt11_0 : Int)), (.d (.slice .str) (bt11_1 : (List (List UInt8))))]))]
noncomputable def ammonitelaw11_CardBack.r9 (K : Nat) (ρ5 : St → Option Bool) (n : Nat) : St → Option Bool := loopAt [.r, .r, .r, .r, .l, .r, .b, .o, .r, .r, .l, .b, .r, .r, .l, .r, .b] ammonitelaw11_CardBack.code (ammonitelaw11_CardBack.C K) (ammonitelaw11_CardBack.ret K) [ρ5] n
noncomputable def ammonitelaw11_CardBack.l9 (K : Nat) (ρ5 : St → Option Bool) (n : Nat) (t8 : Bool) (t9 : (List D25)) (t32 : (List D25)) (t33 : Int) (t34 : Int) (t66 : (List (List UInt8))) (t67 : Int) (t68 : Int) (ba5_0 : Int) (by6_0 : Bool) (bt7_0 : (List D25)) (bt11_0 : Int) (bt11_1 : (List (List UInt8))) : Option Bool := ammonitelaw11_CardBack.r9 K ρ5 n (ammonitelaw11_CardBack.m9 t8 t9 t32 t33 t34 t66 t67 t68 ba5_0 by6_0 bt7_0 bt11_0 bt11_1)
noncomputable def ammonitelaw11_CardBack.m34 (t9 : (List D25)) (t15 : (List UInt8)) (t16 : (List D25)) (t17 : Bool) (t162 : (List D25)) (t163 : Int) (t164 : Int) (ba5_0 : Int) (by6_0 : Bool) (bt7_0 : (List D25)) (bt18_0 : Int) : St := mkSt [(5, (.ptr 5 0)), (6, (.ptr 6 0)), (7, (.ptr 7 0)), (9, (.vs 9 0 T25 (t9 : List D25))), (15, (.d .str (t15 : (List UInt8)))), (16, (.d (.slice T25) (t16 : (List D25)))), (17, (.d .bool (t17 : Bool))), (18, (.ptr 18 0)), (162, (.d (.slice T25) (t162 : (List D25)))), (163, (.d (.int .i64) (t163 : Int))), (164, (.d (.int .i64) (t164 : Int)))] [(9, (.vec T25 0)), (5, (.box [(.d (.int .u8) (ba5_0 : Int))])), (6, (.box [(.d .bool (by6_0 : Bool))])), (7, (.box [(.d (.slice T25) (bt7_0 : (List D25)))])), (18, (.box [(.d (.int .i64) (bt18_0 : Int))]))]
noncomputable def ammonitelaw11_CardBack.r34 (K : Nat)  (n : Nat) : St → Option Bool := loopAt [.r, .r, .r, .r, .r, .r, .r, .r, .r, .r, .r, .l, .r, .b] ammonitelaw11_CardBack.code (ammonitelaw11_CardBack.C K) (ammonitelaw11_CardBack.ret K) [] n
noncomputable def ammonitelaw11_CardBack.l34 (K : Nat)  (n : Nat) (t9 : (List D25)) (t15 : (List UInt8)) (t16 : (List D25)) (t17 : Bool) (t162 : (List D25)) (t163 : Int) (t164 : Int) (ba5_0 : Int) (by6_0 : Bool) (bt7_0 : (List D25)) (bt18_0 : Int) : Option Bool := ammonitelaw11_CardBack.r34 K n (ammonitelaw11_CardBack.m34 t9 t15 t16 t17 t162 t163 t164 ba5_0 by6_0 bt7_0 bt18_0)
noncomputable def ammonitelaw11_CardBack.m13 (t8 : Bool) (t9 : (List D25)) (t13 : (List UInt8)) (t32 : (List D25)) (t33 : Int) (t34 : Int) (t66 : (List (List UInt8))) (t67 : Int) (t68 : Int) (t78 : Int) (t79 : Int) (ba5_0 : Int) (by6_0 : Bool) (bt7_0 : (List D25)) (bt11_0 : Int) (bt11_1 : (List (List UInt8))) : St := mkSt [(5, (.ptr 5 0)), (6, (.ptr 6 0)), (7, (.ptr 7 0)), (8, (.d .bool (t8 : Bool))), (9, (.vs 9 0 T25 (t9 : List D25))), (11, (.ptr 11 0)), (13, (.d .str (t13 : (List UInt8)))), (32, (.d (.slice T25) (t32 : (List D25)))), (33, (.d (.int .i64) (t33 : Int))), (34, (.d (.int .i64) (t34 : Int))), (66, (.d (.slice .str) (t66 : (List (List UInt8))))), (67, (.d (.int .i64) (t67 : Int))), (68, (.d (.int .i64) (t68 : Int))), (78, (.d (.int .i64) (t78 : Int))), (79, (.d (.int .i64) (t79 : Int)))] [(9, (.vec T25 0)), (5, (.box [(.d (.int .u8) (ba5_0 : Int))])), (6, (.box [(.d .bool (by6_0 : Bool))])), (7, (.box [(.d (.slice T25) (bt7_0 : (List D25)))])), (11, (.box [(.d (.int .u8) (bt11_0 : Int)), (.d (.slice .str) (bt11_1 : (List (List UInt8))))]))]
noncomputable def ammonitelaw11_CardBack.r13 (K : Nat) (ρ5 : St → Option Bool) (ρ9 : St → Option Bool) (n : Nat) : St → Option Bool := loopAt [.r, .r, .r, .r, .l, .r, .b, .o, .r, .r, .l, .b, .r, .r, .l, .r, .b, .o, .r, .r, .l, .b, .r, .r, .r, .b] ammonitelaw11_CardBack.code (ammonitelaw11_CardBack.C K) (ammonitelaw11_CardBack.ret K) [ρ5, ρ9] n
noncomputable def ammonitelaw11_CardBack.l13 (K : Nat) (ρ5 : St → Option Bool) (ρ9 : St → Option Bool) (n : Nat) (t8 : Bool) (t9 : (List D25)) (t13 : (List UInt8)) (t32 : (List D25)) (t33 : Int) (t34 : Int) (t66 : (List (List UInt8))) (t67 : Int) (t68 : Int) (t78 : Int) (t79 : Int) (ba5_0 : Int) (by6_0 : Bool) (bt7_0 : (List D25)) (bt11_0 : Int) (bt11_1 : (List (List UInt8))) : Option Bool := ammonitelaw11_CardBack.r13 K ρ5 ρ9 n (ammonitelaw11_CardBack.m13 t8 t9 t13 t32 t33 t34 t66 t67 t68 t78 t79 ba5_0 by6_0 bt7_0 bt11_0 bt11_1)
noncomputable def ammonitelaw11_CardBack.m41 (t9 : (List D25)) (t15 : (List UInt8)) (t16 : (List D25)) (t17 : Bool) (by6_0 : Bool) (bt7_0 : (List D25)) (bt18_0 : Int) (bt25_0 : Int) : St := mkSt [(6, (.ptr 6 0)), (7, (.ptr 7 0)), (9, (.vs 9 0 T25 (t9 : List D25))), (15, (.d .str (t15 : (List UInt8)))), (16, (.d (.slice T25) (t16 : (List D25)))), (17, (.d .bool (t17 : Bool))), (18, (.ptr 18 0)), (25, (.ptr 25 0))] [(9, (.vec T25 0)), (6, (.box [(.d .bool (by6_0 : Bool))])), (7, (.box [(.d (.slice T25) (bt7_0 : (List D25)))])), (18, (.box [(.d (.int .i64) (bt18_0 : Int))])), (25, (.box [(.d (.int .i64) (bt25_0 : Int))]))]
noncomputable def ammonitelaw11_CardBack.r41 (K : Nat)  (l : List D25) : St → Option Bool := rangeAt [.r, .r, .r, .r, .r, .r, .r, .r, .r, .r, .r, .r, .r, .l, .r, .b] ammonitelaw11_CardBack.code (ammonitelaw11_CardBack.C K) (ammonitelaw11_CardBack.ret K) [] (.prod (.int .i64) (.prod (.slice .str) .unit)) l
noncomputable def ammonitelaw11_CardBack.i41 (K : Nat)  (l : List D25) (t9 : (List D25)) (t15 : (List UInt8)) (t16 : (List D25)) (t17 : Bool) (by6_0 : Bool) (bt7_0 : (List D25)) (bt18_0 : Int) (bt25_0 : Int) : Option Bool := ammonitelaw11_CardBack.r41 K l (ammonitelaw11_CardBack.m41 t9 t15 t16 t17 by6_0 bt7_0 bt18_0 bt25_0)
noncomputable def ammonitelaw11_CardBack.mj8 (t8 : Bool) (t9 : (List D25)) (t32 : (List D25)) (t33 : Int) (t34 : Int) (ba5_0 : Int) (by6_0 : Bool) (bt7_0 : (List D25)) (bt11_0 : Int) (bt11_1 : (List (List UInt8))) : St := mkSt [(5, (.ptr 5 0)), (6, (.ptr 6 0)), (7, (.ptr 7 0)), (8, (.d .bool (t8 : Bool))), (9, (.vs 9 0 T25 (t9 : List D25))), (11, (.ptr 11 0)), (32, (.d (.slice T25) (t32 : (List D25)))), (33, (.d (.int .i64) (t33 : Int))), (34, (.d (.int .i64) (t34 : Int)))] [(9, (.vec T25 0)), (5, (.box [(.d (.int .u8) (ba5_0 : Int))])), (6, (.box [(.d .bool (by6_0 : Bool))])), (7, (.box [(.d (.slice T25) (bt7_0 : (List D25)))])), (11, (.box [(.d (.int .u8) (bt11_0 : Int)), (.d (.slice .str) (bt11_1 : (List (List UInt8))))]))]
noncomputable def ammonitelaw11_CardBack.j8 (K : Nat) (ρ5 : St → Option Bool) (t8 : Bool) (t9 : (List D25)) (t32 : (List D25)) (t33 : Int) (t34 : Int) (ba5_0 : Int) (by6_0 : Bool) (bt7_0 : (List D25)) (bt11_0 : Int) (bt11_1 : (List (List UInt8))) : Option Bool := pointAt [.r, .r, .r, .r, .l, .r, .b, .o, .r, .r, .l, .b, .r, .r, .l, .l] ammonitelaw11_CardBack.code (ammonitelaw11_CardBack.C K) (ammonitelaw11_CardBack.ret K) [ρ5] (ammonitelaw11_CardBack.mj8 t8 t9 t32 t33 t34 ba5_0 by6_0 bt7_0 bt11_0 bt11_1)
theorem ammonitelaw11_CardBack.eq (K : Nat) (t0 : (List D25)) (o1 : Bool) (A2 : Int) : ammonitelaw11_CardBack.f K (t0, o1, A2, ()) =
  (((ammonitelaw11_cards.f K (t0, o1, ())).bind fun v_1 =>
   (ammonitelaw11_CardBack.l5 K K (decide ((0 : Int) < (List.length v_1 : Int))) ([] : (List D25)) v_1 (List.length v_1 : Int) (0 : Int) A2 false v_1)) : Option Bool) := by kernel_rfl
theorem ammonitelaw11_CardBack.l5_zero (K : Nat)  (t8 : Bool) (t9 : (List D25)) (t32 : (List D25)) (t33 : Int) (t34 : Int) (ba5_0 : Int) (by6_0 : Bool) (bt7_0 : (List D25)) : ammonitelaw11_CardBack.l5 K 0 t8 t9 t32 t33 t34 ba5_0 by6_0 bt7_0 = none := by kernel_rfl
theorem ammonitelaw11_CardBack.l5_succ (K : Nat)  (n : Nat) (t8 : Bool) (t9 : (List D25)) (t32 : (List D25)) (t33 : Int) (t34 : Int) (ba5_0 : Int) (by6_0 : Bool) (bt7_0 : (List D25)) : ammonitelaw11_CardBack.l5 K (n + 1) t8 t9 t32 t33 t34 ba5_0 by6_0 bt7_0 =
  ((bif (decide (t34 < t33)) then
    (chks [(decide ((0 : Int) ≤ t34)), (decide (t34 < (List.length t32 : Int)))]
     (bif t8 then
       (bif (decide ((65 : Int) ≤ (List.getD t32 (Int.toNat t34) (DTy.dflt T25)).1)) then
         (bif (decide ((List.getD t32 (Int.toNat t34) (DTy.dflt T25)).1 ≤ (89 : Int))) then
           (bif (decide (t34 = (0 : Int))) then
             (ammonitelaw11_CardBack.j8 K (ammonitelaw11_CardBack.r5 K n) true t9 t32 t33 t34 ba5_0 by6_0 bt7_0 (List.getD t32 (Int.toNat t34) (DTy.dflt T25)).1 (List.getD t32 (Int.toNat t34) (DTy.dflt T25)).2.1)
           else
             (chks [(decide ((0 : Int) ≤ (IntKind.wrap .i64 (t34 - (1 : Int))))), (decide ((IntKind.wrap .i64 (t34 - (1 : Int))) < (List.length bt7_0 : Int)))]
              (ammonitelaw11_CardBack.j8 K (ammonitelaw11_CardBack.r5 K n) (decide ((List.getD bt7_0 (Int.toNat (IntKind.wrap .i64 (t34 - (1 : Int)))) (DTy.dflt T25)).1 ≤ (List.getD t32 (Int.toNat t34) (DTy.dflt T25)).1)) t9 t32 t33 t34 ba5_0 by6_0 bt7_0 (List.getD t32 (Int.toNat t34) (DTy.dflt T25)).1 (List.getD t32 (Int.toNat t34) (DTy.dflt T25)).2.1)))
         else
           (ammonitelaw11_CardBack.j8 K (ammonitelaw11_CardBack.r5 K n) false t9 t32 t33 t34 ba5_0 by6_0 bt7_0 (List.getD t32 (Int.toNat t34) (DTy.dflt T25)).1 (List.getD t32 (Int.toNat t34) (DTy.dflt T25)).2.1))
       else
         (ammonitelaw11_CardBack.j8 K (ammonitelaw11_CardBack.r5 K n) false t9 t32 t33 t34 ba5_0 by6_0 bt7_0 (List.getD t32 (Int.toNat t34) (DTy.dflt T25)).1 (List.getD t32 (Int.toNat t34) (DTy.dflt T25)).2.1))
     else
       (ammonitelaw11_CardBack.j8 K (ammonitelaw11_CardBack.r5 K n) false t9 t32 t33 t34 ba5_0 by6_0 bt7_0 (List.getD t32 (Int.toNat t34) (DTy.dflt T25)).1 (List.getD t32 (Int.toNat t34) (DTy.dflt T25)).2.1)))
  else
    ((card_Print.f K (bt7_0, ())).bind fun v_1 =>
     ((card_Right.f K (bt7_0, ())).bind fun v_2 =>
      (bif (!(v_2 == t8)) then
        (some false)
      else
        (bif (!((!(decide (v_1 = ([] : List UInt8)))) == t8)) then
          (some false)
        else
          (bif (!t8) then
            ((ammonitelaw11_CardRuns.f K (())).bind fun v_3 =>
             (some v_3))
          else
            ((card_Read.f K (v_1, ())).bind fun v_4 =>
             ((card_Of.L (bt7_0, ba5_0, ())).bind fun v_5 =>
              (ammonitelaw11_CardBack.i28 K v_5 t9 v_1 v_4.1 v_4.2.1 ba5_0 by6_0 bt7_0 (0 : Int) (-1 : Int)))))))))) : Option Bool) := by kernel_rfl
theorem ammonitelaw11_CardBack.i28_nil (K : Nat)  (t9 : (List D25)) (t15 : (List UInt8)) (t16 : (List D25)) (t17 : Bool) (ba5_0 : Int) (by6_0 : Bool) (bt7_0 : (List D25)) (bt18_0 : Int) (bt19_0 : Int) : ammonitelaw11_CardBack.i28 K [] t9 t15 t16 t17 ba5_0 by6_0 bt7_0 bt18_0 bt19_0 =
  ((ammonitelaw11_CardBack.l34 K K t9 t15 t16 t17 bt7_0 (List.length bt7_0 : Int) (0 : Int) ba5_0 by6_0 bt7_0 bt18_0) : Option Bool) := by kernel_rfl
theorem ammonitelaw11_CardBack.i28_cons (K : Nat)  (x28 : D25) (l : List D25) (t9 : (List D25)) (t15 : (List UInt8)) (t16 : (List D25)) (t17 : Bool) (ba5_0 : Int) (by6_0 : Bool) (bt7_0 : (List D25)) (bt18_0 : Int) (bt19_0 : Int) : ammonitelaw11_CardBack.i28 K (x28 :: l) t9 t15 t16 t17 ba5_0 by6_0 bt7_0 bt18_0 bt19_0 =
  ((bif (decide (x28.1 ≤ bt19_0)) then
    (some false)
  else
    (bif (decide ((List.length bt7_0 : Int) ≤ x28.1)) then
      (some false)
    else
      (chks [(decide ((0 : Int) ≤ x28.1)), (decide (x28.1 < (List.length bt7_0 : Int)))]
       (bif (!(decide ((List.getD bt7_0 (Int.toNat x28.1) (DTy.dflt T25)).1 = ba5_0))) then
         (some false)
       else
         (chks [(decide ((0 : Int) ≤ x28.1)), (decide (x28.1 < (List.length bt7_0 : Int)))]
          ((ammonitebook_Same_string.f K (x28.2.1, (List.getD bt7_0 (Int.toNat x28.1) (DTy.dflt T25)).2.1, ())).bind fun v_1 =>
           (bif (!v_1) then
             (some false)
           else
             (ammonitelaw11_CardBack.i28 K l t9 t15 t16 t17 ba5_0 by6_0 bt7_0 (IntKind.wrap .i64 (bt18_0 + (1 : Int))) x28.1)))))))) : Option Bool) := by kernel_rfl
theorem ammonitelaw11_CardBack.l9_zero (K : Nat) (ρ5 : St → Option Bool) (t8 : Bool) (t9 : (List D25)) (t32 : (List D25)) (t33 : Int) (t34 : Int) (t66 : (List (List UInt8))) (t67 : Int) (t68 : Int) (ba5_0 : Int) (by6_0 : Bool) (bt7_0 : (List D25)) (bt11_0 : Int) (bt11_1 : (List (List UInt8))) : ammonitelaw11_CardBack.l9 K ρ5 0 t8 t9 t32 t33 t34 t66 t67 t68 ba5_0 by6_0 bt7_0 bt11_0 bt11_1 = none := by kernel_rfl
theorem ammonitelaw11_CardBack.l9_succ (K : Nat) (ρ5 : St → Option Bool) (n : Nat) (t8 : Bool) (t9 : (List D25)) (t32 : (List D25)) (t33 : Int) (t34 : Int) (t66 : (List (List UInt8))) (t67 : Int) (t68 : Int) (ba5_0 : Int) (by6_0 : Bool) (bt7_0 : (List D25)) (bt11_0 : Int) (bt11_1 : (List (List UInt8))) : ammonitelaw11_CardBack.l9 K ρ5 (n + 1) t8 t9 t32 t33 t34 t66 t67 t68 ba5_0 by6_0 bt7_0 bt11_0 bt11_1 =
  ((bif (decide (t68 < t67)) then
    (chks [(decide ((0 : Int) ≤ t68)), (decide (t68 < (List.length t66 : Int)))]
     (bif t8 then
       (ammonitelaw11_CardBack.l13 K ρ5 (ammonitelaw11_CardBack.r9 K ρ5 n) K (!(decide ((List.getD t66 (Int.toNat t68) (DTy.dflt .str)) = ([] : List UInt8)))) t9 (List.getD t66 (Int.toNat t68) (DTy.dflt .str)) t32 t33 t34 t66 t67 t68 (List.length (List.getD t66 (Int.toNat t68) (DTy.dflt .str)) : Int) (0 : Int) ba5_0 by6_0 bt7_0 bt11_0 bt11_1)
     else
       (ammonitelaw11_CardBack.l13 K ρ5 (ammonitelaw11_CardBack.r9 K ρ5 n) K false t9 (List.getD t66 (Int.toNat t68) (DTy.dflt .str)) t32 t33 t34 t66 t67 t68 (List.length (List.getD t66 (Int.toNat t68) (DTy.dflt .str)) : Int) (0 : Int) ba5_0 by6_0 bt7_0 bt11_0 bt11_1)))
  else
    (chks [(growOk (List.length t9) (List.length ([(bt11_0, (bt11_1, ()))] : List D25)) 32)]
     (ρ5 (ammonitelaw11_CardBack.m5 t8 (t9 ++ ([(bt11_0, (bt11_1, ()))] : List D25)) t32 t33 (IntKind.wrap .i64 (t34 + (1 : Int))) ba5_0 by6_0 bt7_0)))) : Option Bool) := by kernel_rfl
theorem ammonitelaw11_CardBack.l34_zero (K : Nat)  (t9 : (List D25)) (t15 : (List UInt8)) (t16 : (List D25)) (t17 : Bool) (t162 : (List D25)) (t163 : Int) (t164 : Int) (ba5_0 : Int) (by6_0 : Bool) (bt7_0 : (List D25)) (bt18_0 : Int) : ammonitelaw11_CardBack.l34 K 0 t9 t15 t16 t17 t162 t163 t164 ba5_0 by6_0 bt7_0 bt18_0 = none := by kernel_rfl
theorem ammonitelaw11_CardBack.l34_succ (K : Nat)  (n : Nat) (t9 : (List D25)) (t15 : (List UInt8)) (t16 : (List D25)) (t17 : Bool) (t162 : (List D25)) (t163 : Int) (t164 : Int) (ba5_0 : Int) (by6_0 : Bool) (bt7_0 : (List D25)) (bt18_0 : Int) : ammonitelaw11_CardBack.l34 K (n + 1) t9 t15 t16 t17 t162 t163 t164 ba5_0 by6_0 bt7_0 bt18_0 =
  ((bif (decide (t164 < t163)) then
    (chks [(decide ((0 : Int) ≤ t164)), (decide (t164 < (List.length t162 : Int)))]
     (bif (decide ((List.getD t162 (Int.toNat t164) (DTy.dflt T25)).1 = ba5_0)) then
       (ammonitelaw11_CardBack.l34 K n t9 t15 t16 t17 t162 t163 (IntKind.wrap .i64 (t164 + (1 : Int))) ba5_0 by6_0 bt7_0 (IntKind.wrap .i64 (bt18_0 - (1 : Int))))
     else
       (ammonitelaw11_CardBack.l34 K n t9 t15 t16 t17 t162 t163 (IntKind.wrap .i64 (t164 + (1 : Int))) ba5_0 by6_0 bt7_0 bt18_0)))
  else
    ((card_One.f K (bt7_0, ba5_0, ())).bind fun v_1 =>
     ((card_Of.L (bt7_0, ba5_0, ())).bind fun v_2 =>
      (ammonitelaw11_CardBack.i41 K v_2 t9 t15 t16 t17 by6_0 bt7_0 bt18_0 v_1.2.1)))) : Option Bool) := by kernel_rfl
theorem ammonitelaw11_CardBack.l13_zero (K : Nat) (ρ5 : St → Option Bool) (ρ9 : St → Option Bool) (t8 : Bool) (t9 : (List D25)) (t13 : (List UInt8)) (t32 : (List D25)) (t33 : Int) (t34 : Int) (t66 : (List (List UInt8))) (t67 : Int) (t68 : Int) (t78 : Int) (t79 : Int) (ba5_0 : Int) (by6_0 : Bool) (bt7_0 : (List D25)) (bt11_0 : Int) (bt11_1 : (List (List UInt8))) : ammonitelaw11_CardBack.l13 K ρ5 ρ9 0 t8 t9 t13 t32 t33 t34 t66 t67 t68 t78 t79 ba5_0 by6_0 bt7_0 bt11_0 bt11_1 = none := by kernel_rfl
theorem ammonitelaw11_CardBack.l13_succ (K : Nat) (ρ5 : St → Option Bool) (ρ9 : St → Option Bool) (n : Nat) (t8 : Bool) (t9 : (List D25)) (t13 : (List UInt8)) (t32 : (List D25)) (t33 : Int) (t34 : Int) (t66 : (List (List UInt8))) (t67 : Int) (t68 : Int) (t78 : Int) (t79 : Int) (ba5_0 : Int) (by6_0 : Bool) (bt7_0 : (List D25)) (bt11_0 : Int) (bt11_1 : (List (List UInt8))) : ammonitelaw11_CardBack.l13 K ρ5 ρ9 (n + 1) t8 t9 t13 t32 t33 t34 t66 t67 t68 t78 t79 ba5_0 by6_0 bt7_0 bt11_0 bt11_1 =
  ((bif (decide (t79 < t78)) then
    (bif t8 then
      (chks [(decide ((0 : Int) ≤ t79)), (decide (t79 < (List.length t13 : Int)))]
       (bif (!(decide (((List.getD t13 (Int.toNat t79) 0).toNat : Int) = (32 : Int)))) then
         (chks [(decide ((0 : Int) ≤ t79)), (decide (t79 < (List.length t13 : Int)))]
          (ammonitelaw11_CardBack.l13 K ρ5 ρ9 n (!(decide (((List.getD t13 (Int.toNat t79) 0).toNat : Int) = (10 : Int)))) t9 t13 t32 t33 t34 t66 t67 t68 t78 (IntKind.wrap .i64 (t79 + (1 : Int))) ba5_0 by6_0 bt7_0 bt11_0 bt11_1))
       else
         (ammonitelaw11_CardBack.l13 K ρ5 ρ9 n false t9 t13 t32 t33 t34 t66 t67 t68 t78 (IntKind.wrap .i64 (t79 + (1 : Int))) ba5_0 by6_0 bt7_0 bt11_0 bt11_1)))
    else
      (ammonitelaw11_CardBack.l13 K ρ5 ρ9 n false t9 t13 t32 t33 t34 t66 t67 t68 t78 (IntKind.wrap .i64 (t79 + (1 : Int))) ba5_0 by6_0 bt7_0 bt11_0 bt11_1))
  else
    (ρ9 (ammonitelaw11_CardBack.m9 t8 t9 t32 t33 t34 t66 t67 (IntKind.wrap .i64 (t68 + (1 : Int))) ba5_0 by6_0 bt7_0 bt11_0 bt11_1))) : Option Bool) := by kernel_rfl
theorem ammonitelaw11_CardBack.i41_nil (K : Nat)  (t9 : (List D25)) (t15 : (List UInt8)) (t16 : (List D25)) (t17 : Bool) (by6_0 : Bool) (bt7_0 : (List D25)) (bt18_0 : Int) (bt25_0 : Int) : ammonitelaw11_CardBack.i41 K [] t9 t15 t16 t17 by6_0 bt7_0 bt18_0 bt25_0 =
  (((ammoniteref10_Print.f K (t9, ())).bind fun v_1 =>
   (bif (decide (t15 = v_1)) then
     (bif t17 then
       ((ammonitelaw11_same.f K (t16, bt7_0, ())).bind fun v_2 =>
        (bif v_2 then
          (bif (decide (bt18_0 = (0 : Int))) then
            (bif (decide (bt25_0 = (0 : Int))) then
              ((ammonitelaw11_CardRuns.f K (())).bind fun v_3 =>
               (some v_3))
            else
              (some false))
          else
            (some false))
        else
          (some false)))
     else
       (some false))
   else
     (some false))) : Option Bool) := by kernel_rfl
theorem ammonitelaw11_CardBack.i41_cons (K : Nat)  (x41 : D25) (l : List D25) (t9 : (List D25)) (t15 : (List UInt8)) (t16 : (List D25)) (t17 : Bool) (by6_0 : Bool) (bt7_0 : (List D25)) (bt18_0 : Int) (bt25_0 : Int) : ammonitelaw11_CardBack.i41 K (x41 :: l) t9 t15 t16 t17 by6_0 bt7_0 bt18_0 bt25_0 =
  ((ammonitelaw11_CardBack.i41 K l t9 t15 t16 t17 by6_0 bt7_0 bt18_0 (IntKind.wrap .i64 (bt25_0 - (1 : Int)))) : Option Bool) := by kernel_rfl
theorem ammonitelaw11_CardBack.j8_eq {K : Nat} (hK : 0 < K) (ρ5 : St → Option Bool) (t8 : Bool) (t9 : (List D25)) (t32 : (List D25)) (t33 : Int) (t34 : Int) (ba5_0 : Int) (by6_0 : Bool) (bt7_0 : (List D25)) (bt11_0 : Int) (bt11_1 : (List (List UInt8))) : ammonitelaw11_CardBack.j8 K ρ5 t8 t9 t32 t33 t34 ba5_0 by6_0 bt7_0 bt11_0 bt11_1 =
  ((ammonitelaw11_CardBack.l9 K ρ5 K t8 t9 t32 t33 t34 bt11_1 (List.length bt11_1 : Int) (0 : Int) ba5_0 by6_0 bt7_0 bt11_0 bt11_1) : Option Bool) := by
  cases K with
  | zero => exact absurd hK (Nat.lt_irrefl 0)
  | succ K => kernel_rfl
theorem ammonitelaw11_CardBack.tbOk (K : Nat) : TbOk Try.prog (ammonitelaw11_CardBack.tb K) := by
  intro e he
  simp only [ammonitelaw11_CardBack.tb, List.mem_cons, List.not_mem_nil, or_false] at he
  rcases he with rfl | rfl | rfl | rfl | rfl | rfl | rfl | rfl | rfl
  · exact ⟨ammonitelaw11_cards.ok K, enters_of Try.func11 (by kernel_rfl) rfl⟩
  · exact ⟨card_Print.ok K, enters_of Try.func8 (by kernel_rfl) rfl⟩
  · exact ⟨card_Right.ok K, enters_of Try.func12 (by kernel_rfl) rfl⟩
  · exact ⟨ammonitelaw11_CardRuns.ok K, enters_of Try.func3 (by kernel_rfl) rfl⟩
  · exact ⟨card_Read.ok K, enters_of Try.func9 (by kernel_rfl) rfl⟩
  · exact ⟨ammonitebook_Same_string.ok K, enters_of Try.func14 (by kernel_rfl) rfl⟩
  · exact ⟨card_One.ok K, enters_of Try.func10 (by kernel_rfl) rfl⟩
  · exact ⟨ammoniteref10_Print.ok K, enters_of Try.func15 (by kernel_rfl) rfl⟩
  · exact ⟨ammonitelaw11_same.ok K, enters_of Try.func16 (by kernel_rfl) rfl⟩

theorem ammonitelaw11_CardBack.itsOk : ItbOk Try.prog ammonitelaw11_CardBack.its := by
  intro e he
  simp only [ammonitelaw11_CardBack.its, List.mem_cons, List.not_mem_nil, or_false] at he
  rcases he with rfl
  · exact ⟨card_Of.itc, enters_of Try.func13 (by kernel_rfl) rfl⟩

theorem ammonitelaw11_CardBack.ok (K : Nat) : PureC Try.prog 4 ⟨[(.slice T25), .bool, (.int .u8)], [.bool], ammonitelaw11_CardBack.f K⟩ :=
  fn_sound (itOk _ _) (E := ammonitelaw11_CardBack.E K) (full_ok tys_ok ammonitelaw11_CardBack.itsOk (ammonitelaw11_CardBack.tbOk K) par_ok bld_ok bty_ok) mixed Try.func4 (c := ammonitelaw11_CardBack.code) (by kernel_rfl) (by kernel_rfl) (by decide) (by kernel_rfl)
/-! ### ammonite/ammonitelaw11.CardOnly: function 5 -/
noncomputable def ammonitelaw11_CardOnly.tb (K : Nat) : Tb := [(11, ⟨[(.slice T25), .bool], [(.slice T25)], ammonitelaw11_cards.f K⟩), (8, ⟨[(.slice T25)], [.str], card_Print.f K⟩), (17, ⟨[(.int .i64), (.int .i64), (.int .i64)], [(.int .i64)], ammonitebook_Within.f K⟩), (15, ⟨[(.slice T25)], [.str], ammoniteref10_Print.f K⟩), (9, ⟨[.str], [(.slice T25), .bool], card_Read.f K⟩), (18, ⟨[.str], [(.slice T25), .bool], ammoniteref10_Cards.f K⟩), (14, ⟨[(.slice .str), (.slice .str)], [.bool], ammonitebook_Same_string.f K⟩), (3, ⟨[], [.bool], ammonitelaw11_CardRuns.f K⟩)]
noncomputable def ammonitelaw11_CardOnly.its : Itb := []
noncomputable def ammonitelaw11_CardOnly.code : Code := (Try.f5.body).getD .skip
noncomputable def ammonitelaw11_CardOnly.nm : Nat → NormSpec := lookN [(20, ⟨[(11, (.data .str)), (13, (.data (.slice T25))), (14, (.data .bool)), (15, (.data (.slice T25))), (110, (.data (.int .i64))), (111, (.data (.int .i64)))], [], []⟩)]
noncomputable def ammonitelaw11_CardOnly.pre : Nat → Option NormSpec := lookP [(4, ⟨[(1, (.data .str)), (2, (.data (.int .i64))), (3, (.data (.int .u8))), (4, (.data (.int .i64))), (11, (.data .str))], [], []⟩), (13, ⟨[(1, (.data .str)), (3, (.data (.int .u8))), (4, (.data (.int .i64))), (11, (.data .str))], [], []⟩), (15, ⟨[(11, (.data .str))], [], []⟩)]
noncomputable def ammonitelaw11_CardOnly.E (K : Nat) : Env := ⟨lookR tys, bty, fullCall ammonitelaw11_CardOnly.its (ammonitelaw11_CardOnly.tb K) bids⟩
noncomputable def ammonitelaw11_CardOnly.ret (K : Nat) : St → Option (resT [.bool]).den := retA (ammonitelaw11_CardOnly.E K) [.bool] [(.tmp 10)]
noncomputable def ammonitelaw11_CardOnly.C (K : Nat) : CEnv (resT [.bool]).den := ⟨ammonitelaw11_CardOnly.E K, 151, K, ammonitelaw11_CardOnly.nm, ammonitelaw11_CardOnly.ret K, [], fun _ => false, ammonitelaw11_CardOnly.pre⟩
noncomputable def ammonitelaw11_CardOnly.f (K : Nat) (x : (prodT [(.slice T25), .str, (.int .i64), (.int .u8), (.int .i64)]).den) : Option (resT [.bool]).den := exec ammonitelaw11_CardOnly.code (ammonitelaw11_CardOnly.C K) (ammonitelaw11_CardOnly.ret K) (init [(.slice T25), .str, (.int .i64), (.int .u8), (.int .i64)] x)
noncomputable def ammonitelaw11_CardOnly.m20 (t11 : (List UInt8)) (t13 : (List D25)) (t14 : Bool) (t15 : (List D25)) (t110 : Int) (t111 : Int) : St := mkSt [(11, (.d .str (t11 : (List UInt8)))), (13, (.d (.slice T25) (t13 : (List D25)))), (14, (.d .bool (t14 : Bool))), (15, (.d (.slice T25) (t15 : (List D25)))), (110, (.d (.int .i64) (t110 : Int))), (111, (.d (.int .i64) (t111 : Int)))] []
noncomputable def ammonitelaw11_CardOnly.r20 (K : Nat)  (n : Nat) : St → Option Bool := loopAt [.r, .r, .r, .r, .r, .r, .r, .r, .l, .r, .b] ammonitelaw11_CardOnly.code (ammonitelaw11_CardOnly.C K) (ammonitelaw11_CardOnly.ret K) [] n
noncomputable def ammonitelaw11_CardOnly.l20 (K : Nat)  (n : Nat) (t11 : (List UInt8)) (t13 : (List D25)) (t14 : Bool) (t15 : (List D25)) (t110 : Int) (t111 : Int) : Option Bool := ammonitelaw11_CardOnly.r20 K n (ammonitelaw11_CardOnly.m20 t11 t13 t14 t15 t110 t111)
noncomputable def ammonitelaw11_CardOnly.mj4 (o1 : (List UInt8)) (A2 : Int) (r3 : Int) (r4 : Int) (t11 : (List UInt8)) : St := mkSt [(1, (.d .str (o1 : (List UInt8)))), (2, (.d (.int .i64) (A2 : Int))), (3, (.d (.int .u8) (r3 : Int))), (4, (.d (.int .i64) (r4 : Int))), (11, (.d .str (t11 : (List UInt8))))] []
noncomputable def ammonitelaw11_CardOnly.j4 (K : Nat)  (o1 : (List UInt8)) (A2 : Int) (r3 : Int) (r4 : Int) (t11 : (List UInt8)) : Option Bool := pointAt [.r, .r, .r, .l, .l] ammonitelaw11_CardOnly.code (ammonitelaw11_CardOnly.C K) (ammonitelaw11_CardOnly.ret K) [] (ammonitelaw11_CardOnly.mj4 o1 A2 r3 r4 t11)
noncomputable def ammonitelaw11_CardOnly.mj13 (o1 : (List UInt8)) (r3 : Int) (r4 : Int) (t11 : (List UInt8)) : St := mkSt [(1, (.d .str (o1 : (List UInt8)))), (3, (.d (.int .u8) (r3 : Int))), (4, (.d (.int .i64) (r4 : Int))), (11, (.d .str (t11 : (List UInt8))))] []
noncomputable def ammonitelaw11_CardOnly.j13 (K : Nat)  (o1 : (List UInt8)) (r3 : Int) (r4 : Int) (t11 : (List UInt8)) : Option Bool := pointAt [.r, .r, .r, .r, .l, .l] ammonitelaw11_CardOnly.code (ammonitelaw11_CardOnly.C K) (ammonitelaw11_CardOnly.ret K) [] (ammonitelaw11_CardOnly.mj13 o1 r3 r4 t11)
noncomputable def ammonitelaw11_CardOnly.mj15 (t11 : (List UInt8)) : St := mkSt [(11, (.d .str (t11 : (List UInt8))))] []
noncomputable def ammonitelaw11_CardOnly.j15 (K : Nat)  (t11 : (List UInt8)) : Option Bool := pointAt [.r, .r, .r, .r, .r, .l] ammonitelaw11_CardOnly.code (ammonitelaw11_CardOnly.C K) (ammonitelaw11_CardOnly.ret K) [] (ammonitelaw11_CardOnly.mj15 t11)
theorem ammonitelaw11_CardOnly.eq (K : Nat) (t0 : (List D25)) (o1 : (List UInt8)) (A2 : Int) (r3 : Int) (r4 : Int) : ammonitelaw11_CardOnly.f K (t0, o1, A2, r3, r4, ()) =
  (((ammonitelaw11_cards.f K (t0, false, ())).bind fun v_1 =>
   ((card_Print.f K (v_1, ())).bind fun v_2 =>
    (bif (decide (v_2 = ([] : List UInt8))) then
      (chks [(decide ((0 : Int) ≤ (if (20 : Int) < (List.length o1 : Int) then (20 : Int) else (List.length o1 : Int)))), (decide ((if (20 : Int) < (List.length o1 : Int) then (20 : Int) else (List.length o1 : Int)) ≤ (List.length o1 : Int)))]
       (ammonitelaw11_CardOnly.j4 K o1 A2 r3 r4 (cutL o1 none (some (if (20 : Int) < (List.length o1 : Int) then (20 : Int) else (List.length o1 : Int))))))
    else
      (ammonitelaw11_CardOnly.j4 K o1 A2 r3 r4 v_2)))) : Option Bool) := by kernel_rfl
theorem ammonitelaw11_CardOnly.l20_zero (K : Nat)  (t11 : (List UInt8)) (t13 : (List D25)) (t14 : Bool) (t15 : (List D25)) (t110 : Int) (t111 : Int) : ammonitelaw11_CardOnly.l20 K 0 t11 t13 t14 t15 t110 t111 = none := by kernel_rfl
theorem ammonitelaw11_CardOnly.l20_succ (K : Nat)  (n : Nat) (t11 : (List UInt8)) (t13 : (List D25)) (t14 : Bool) (t15 : (List D25)) (t110 : Int) (t111 : Int) : ammonitelaw11_CardOnly.l20 K (n + 1) t11 t13 t14 t15 t110 t111 =
  ((bif (decide (t111 < t110)) then
    (chks [(decide ((0 : Int) ≤ t111)), (decide (t111 < (List.length t13 : Int)))]
     (chks [(decide ((0 : Int) ≤ t111)), (decide (t111 < (List.length t15 : Int)))]
      (bif (!(decide ((List.getD t13 (Int.toNat t111) (DTy.dflt T25)).1 = (List.getD t15 (Int.toNat t111) (DTy.dflt T25)).1))) then
        (some false)
      else
        (chks [(decide ((0 : Int) ≤ t111)), (decide (t111 < (List.length t13 : Int)))]
         (chks [(decide ((0 : Int) ≤ t111)), (decide (t111 < (List.length t15 : Int)))]
          ((ammonitebook_Same_string.f K ((List.getD t13 (Int.toNat t111) (DTy.dflt T25)).2.1, (List.getD t15 (Int.toNat t111) (DTy.dflt T25)).2.1, ())).bind fun v_1 =>
           (bif (!v_1) then
             (some false)
           else
             (ammonitelaw11_CardOnly.l20 K n t11 t13 t14 t15 t110 (IntKind.wrap .i64 (t111 + (1 : Int)))))))))))
  else
    (bif (!t14) then
      ((ammonitelaw11_CardRuns.f K (())).bind fun v_2 =>
       (some v_2))
    else
      ((card_Print.f K (t13, ())).bind fun v_3 =>
       (bif (decide (v_3 = t11)) then
         ((ammonitelaw11_CardRuns.f K (())).bind fun v_4 =>
          (some v_4))
       else
         (some false))))) : Option Bool) := by kernel_rfl
theorem ammonitelaw11_CardOnly.j4_eq {K : Nat} (hK : 0 < K)  (o1 : (List UInt8)) (A2 : Int) (r3 : Int) (r4 : Int) (t11 : (List UInt8)) : ammonitelaw11_CardOnly.j4 K o1 A2 r3 r4 t11 =
  ((bif (decide ((0 : Int) < (List.length t11 : Int))) then
    ((ammonitebook_Within.f K (A2, (0 : Int), (IntKind.wrap .i64 ((List.length t11 : Int) - (1 : Int))), ())).bind fun v_1 =>
     (bif (decide ((bit2 .and .i64 r4 (3 : Int)) = (0 : Int))) then
       (chks [(decide ((0 : Int) ≤ v_1)), (decide (v_1 ≤ (List.length t11 : Int)))]
        (chks [(catOk (cutL t11 none (some v_1)) (textOf ([r3] : List Int)))]
         (chks [(decide ((0 : Int) ≤ (IntKind.wrap .i64 (v_1 + (1 : Int))))), (decide ((IntKind.wrap .i64 (v_1 + (1 : Int))) ≤ (List.length t11 : Int)))]
          (chks [(catOk ((cutL t11 none (some v_1)) ++ (textOf ([r3] : List Int))) (cutL t11 (some (IntKind.wrap .i64 (v_1 + (1 : Int)))) none))]
           (ammonitelaw11_CardOnly.j13 K o1 r3 r4 (((cutL t11 none (some v_1)) ++ (textOf ([r3] : List Int))) ++ (cutL t11 (some (IntKind.wrap .i64 (v_1 + (1 : Int)))) none)))))))
     else
       (bif (decide ((bit2 .and .i64 r4 (3 : Int)) = (1 : Int))) then
         (chks [(decide ((0 : Int) ≤ v_1)), (decide (v_1 ≤ (List.length t11 : Int)))]
          (ammonitelaw11_CardOnly.j13 K o1 r3 r4 (cutL t11 none (some v_1))))
       else
         (bif (decide ((bit2 .and .i64 r4 (3 : Int)) = (2 : Int))) then
           (chks [(decide ((0 : Int) ≤ (if (5 : Int) < (List.length o1 : Int) then (5 : Int) else (List.length o1 : Int)))), (decide ((if (5 : Int) < (List.length o1 : Int) then (5 : Int) else (List.length o1 : Int)) ≤ (List.length o1 : Int)))]
            (chks [(catOk t11 (cutL o1 none (some (if (5 : Int) < (List.length o1 : Int) then (5 : Int) else (List.length o1 : Int)))))]
             (ammonitelaw11_CardOnly.j13 K o1 r3 r4 (t11 ++ (cutL o1 none (some (if (5 : Int) < (List.length o1 : Int) then (5 : Int) else (List.length o1 : Int))))))))
         else
           (ammonitelaw11_CardOnly.j13 K o1 r3 r4 t11)))))
  else
    (ammonitelaw11_CardOnly.j13 K o1 r3 r4 t11)) : Option Bool) := by
  cases K with
  | zero => exact absurd hK (Nat.lt_irrefl 0)
  | succ K => kernel_rfl
theorem ammonitelaw11_CardOnly.j13_eq {K : Nat} (hK : 0 < K)  (o1 : (List UInt8)) (r3 : Int) (r4 : Int) (t11 : (List UInt8)) : ammonitelaw11_CardOnly.j13 K o1 r3 r4 t11 =
  ((bif (decide ((bit2 .and .i64 r4 (7 : Int)) = (7 : Int))) then
    (chks [(decide ((0 : Int) ≤ (if (4 : Int) < (List.length o1 : Int) then (4 : Int) else (List.length o1 : Int)))), (decide ((if (4 : Int) < (List.length o1 : Int) then (4 : Int) else (List.length o1 : Int)) ≤ (List.length o1 : Int)))]
     ((ammoniteref10_Print.f K (([((66 : Int), (([(cutL o1 none (some (if (4 : Int) < (List.length o1 : Int) then (4 : Int) else (List.length o1 : Int))))] : List (List UInt8)), ())), (r3, (([] : (List (List UInt8))), ()))] : List D25), ())).bind fun v_1 =>
      (ammonitelaw11_CardOnly.j15 K v_1)))
  else
    (ammonitelaw11_CardOnly.j15 K t11)) : Option Bool) := by
  cases K with
  | zero => exact absurd hK (Nat.lt_irrefl 0)
  | succ K => kernel_rfl
theorem ammonitelaw11_CardOnly.j15_eq {K : Nat} (hK : 0 < K)  (t11 : (List UInt8)) : ammonitelaw11_CardOnly.j15 K t11 =
  (((card_Read.f K (t11, ())).bind fun v_1 =>
   ((ammoniteref10_Cards.f K (t11, ())).bind fun v_2 =>
    (bif (!(v_1.2.1 == v_2.2.1)) then
      (some false)
    else
      (bif (!v_2.2.1) then
        (bif (!(decide ((List.length v_1.1 : Int) = (0 : Int)))) then
          (some false)
        else
          (bif (!(decide ((List.length v_1.1 : Int) = (List.length v_2.1 : Int)))) then
            (some false)
          else
            (ammonitelaw11_CardOnly.l20 K K t11 v_1.1 v_1.2.1 v_2.1 (List.length v_1.1 : Int) (0 : Int))))
      else
        (bif (!(decide ((List.length v_1.1 : Int) = (List.length v_2.1 : Int)))) then
          (some false)
        else
          (ammonitelaw11_CardOnly.l20 K K t11 v_1.1 v_1.2.1 v_2.1 (List.length v_1.1 : Int) (0 : Int))))))) : Option Bool) := by
  cases K with
  | zero => exact absurd hK (Nat.lt_irrefl 0)
  | succ K => kernel_rfl
theorem ammonitelaw11_CardOnly.tbOk (K : Nat) : TbOk Try.prog (ammonitelaw11_CardOnly.tb K) := by
  intro e he
  simp only [ammonitelaw11_CardOnly.tb, List.mem_cons, List.not_mem_nil, or_false] at he
  rcases he with rfl | rfl | rfl | rfl | rfl | rfl | rfl | rfl
  · exact ⟨ammonitelaw11_cards.ok K, enters_of Try.func11 (by kernel_rfl) rfl⟩
  · exact ⟨card_Print.ok K, enters_of Try.func8 (by kernel_rfl) rfl⟩
  · exact ⟨ammonitebook_Within.ok K, enters_of Try.func17 (by kernel_rfl) rfl⟩
  · exact ⟨ammoniteref10_Print.ok K, enters_of Try.func15 (by kernel_rfl) rfl⟩
  · exact ⟨card_Read.ok K, enters_of Try.func9 (by kernel_rfl) rfl⟩
  · exact ⟨ammoniteref10_Cards.ok K, enters_of Try.func18 (by kernel_rfl) rfl⟩
  · exact ⟨ammonitebook_Same_string.ok K, enters_of Try.func14 (by kernel_rfl) rfl⟩
  · exact ⟨ammonitelaw11_CardRuns.ok K, enters_of Try.func3 (by kernel_rfl) rfl⟩

theorem ammonitelaw11_CardOnly.itsOk : ItbOk Try.prog ammonitelaw11_CardOnly.its := by
  intro e he
  simp only [ammonitelaw11_CardOnly.its, List.mem_cons, List.not_mem_nil, or_false] at he

theorem ammonitelaw11_CardOnly.ok (K : Nat) : PureC Try.prog 5 ⟨[(.slice T25), .str, (.int .i64), (.int .u8), (.int .i64)], [.bool], ammonitelaw11_CardOnly.f K⟩ :=
  fn_sound (itOk _ _) (E := ammonitelaw11_CardOnly.E K) (full_ok tys_ok ammonitelaw11_CardOnly.itsOk (ammonitelaw11_CardOnly.tbOk K) par_ok bld_ok bty_ok) mixed Try.func5 (c := ammonitelaw11_CardOnly.code) (by kernel_rfl) (by kernel_rfl) (by decide) (by kernel_rfl)
/-! ### ammonite/ammonitelaw11.CardAll: function 7 -/
noncomputable def ammonitelaw11_CardAll.tb (K : Nat) : Tb := [(11, ⟨[(.slice T25), .bool], [(.slice T25)], ammonitelaw11_cards.f K⟩), (12, ⟨[(.slice T25)], [.bool], card_Right.f K⟩), (3, ⟨[], [.bool], ammonitelaw11_CardRuns.f K⟩), (17, ⟨[(.int .i64), (.int .i64), (.int .i64)], [(.int .i64)], ammonitebook_Within.f K⟩), (14, ⟨[(.slice .str), (.slice .str)], [.bool], ammonitebook_Same_string.f K⟩)]
noncomputable def ammonitelaw11_CardAll.its : Itb := [(13, ⟨[(.slice T25), (.int .u8)], (.prod (.int .i64) (.prod (.slice .str) .unit)), card_Of.L⟩)]
noncomputable def ammonitelaw11_CardAll.code : Code := (Try.f7.body).getD .skip
noncomputable def ammonitelaw11_CardAll.nm : Nat → NormSpec := lookN [(6, ⟨[(1, (.data (.int .i64))), (4, .raw), (5, .raw), (6, .raw), (7, .raw)], [(4, [(.data .bool)]), (5, [(.data (.slice T25))]), (6, [(.data (.int .i64))]), (7, [(.data (.int .u8))])], []⟩), (9, ⟨[(1, (.data (.int .i64))), (4, .raw), (5, .raw), (6, .raw), (7, .raw)], [(4, [(.data .bool)]), (5, [(.data (.slice T25))]), (6, [(.data (.int .i64))]), (7, [(.data (.int .u8))])], []⟩), (21, ⟨[(4, .raw), (5, .raw), (10, .raw), (11, .raw), (12, (.data (.int .i64)))], [(4, [(.data .bool)]), (5, [(.data (.slice T25))]), (10, [(.data (.int .i64))]), (11, [(.data (.int .i64))])], []⟩), (24, ⟨[(4, .raw), (5, .raw), (10, .raw), (11, .raw), (12, (.data (.int .i64))), (91, (.data (.slice T25))), (92, (.data (.int .i64))), (93, (.data (.int .i64)))], [(4, [(.data .bool)]), (5, [(.data (.slice T25))]), (10, [(.data (.int .i64))]), (11, [(.data (.int .i64))])], []⟩)]
noncomputable def ammonitelaw11_CardAll.pre : Nat → Option NormSpec := lookP [(15, ⟨[(1, (.data (.int .i64))), (4, .raw), (5, .raw), (6, .raw), (59, (.data (.int .u8)))], [(4, [(.data .bool)]), (5, [(.data (.slice T25))]), (6, [(.data (.int .i64))])], []⟩)]
noncomputable def ammonitelaw11_CardAll.E (K : Nat) : Env := ⟨lookR tys, bty, fullCall ammonitelaw11_CardAll.its (ammonitelaw11_CardAll.tb K) bids⟩
noncomputable def ammonitelaw11_CardAll.ret (K : Nat) : St → Option (resT [.bool]).den := retA (ammonitelaw11_CardAll.E K) [.bool] [(.cell 4 4)]
noncomputable def ammonitelaw11_CardAll.C (K : Nat) : CEnv (resT [.bool]).den := ⟨ammonitelaw11_CardAll.E K, 115, K, ammonitelaw11_CardAll.nm, ammonitelaw11_CardAll.ret K, [], fun _ => false, ammonitelaw11_CardAll.pre⟩
noncomputable def ammonitelaw11_CardAll.f (K : Nat) (x : (prodT [(.slice T25), (.int .i64)]).den) : Option (resT [.bool]).den := exec ammonitelaw11_CardAll.code (ammonitelaw11_CardAll.C K) (ammonitelaw11_CardAll.ret K) (init [(.slice T25), (.int .i64)] x)
noncomputable def ammonitelaw11_CardAll.m6 (cut1 : Int) (bt4_0 : Bool) (bx5_0 : (List D25)) (bn6_0 : Int) (bc7_0 : Int) : St := mkSt [(1, (.d (.int .i64) (cut1 : Int))), (4, (.ptr 4 0)), (5, (.ptr 5 0)), (6, (.ptr 6 0)), (7, (.ptr 7 0))] [(4, (.box [(.d .bool (bt4_0 : Bool))])), (5, (.box [(.d (.slice T25) (bx5_0 : (List D25)))])), (6, (.box [(.d (.int .i64) (bn6_0 : Int))])), (7, (.box [(.d (.int .u8) (bc7_0 : Int))]))]
noncomputable def ammonitelaw11_CardAll.r6 (K : Nat)  (n : Nat) : St → Option Bool := loopAt [.r, .r, .r, .r, .l, .r, .b] ammonitelaw11_CardAll.code (ammonitelaw11_CardAll.C K) (ammonitelaw11_CardAll.ret K) [] n
noncomputable def ammonitelaw11_CardAll.l6 (K : Nat)  (n : Nat) (cut1 : Int) (bt4_0 : Bool) (bx5_0 : (List D25)) (bn6_0 : Int) (bc7_0 : Int) : Option Bool := ammonitelaw11_CardAll.r6 K n (ammonitelaw11_CardAll.m6 cut1 bt4_0 bx5_0 bn6_0 bc7_0)
noncomputable def ammonitelaw11_CardAll.m9 (cut1 : Int) (bt4_0 : Bool) (bx5_0 : (List D25)) (bn6_0 : Int) (bc7_0 : Int) : St := mkSt [(1, (.d (.int .i64) (cut1 : Int))), (4, (.ptr 4 0)), (5, (.ptr 5 0)), (6, (.ptr 6 0)), (7, (.ptr 7 0))] [(4, (.box [(.d .bool (bt4_0 : Bool))])), (5, (.box [(.d (.slice T25) (bx5_0 : (List D25)))])), (6, (.box [(.d (.int .i64) (bn6_0 : Int))])), (7, (.box [(.d (.int .u8) (bc7_0 : Int))]))]
noncomputable def ammonitelaw11_CardAll.r9 (K : Nat) (ρ6 : St → Option Bool) (l : List D25) : St → Option Bool := rangeAt [.r, .r, .r, .r, .l, .r, .b, .o, .r, .l, .b, .r, .b] ammonitelaw11_CardAll.code (ammonitelaw11_CardAll.C K) (ammonitelaw11_CardAll.ret K) [ρ6] (.prod (.int .i64) (.prod (.slice .str) .unit)) l
noncomputable def ammonitelaw11_CardAll.i9 (K : Nat) (ρ6 : St → Option Bool) (l : List D25) (cut1 : Int) (bt4_0 : Bool) (bx5_0 : (List D25)) (bn6_0 : Int) (bc7_0 : Int) : Option Bool := ammonitelaw11_CardAll.r9 K ρ6 l (ammonitelaw11_CardAll.m9 cut1 bt4_0 bx5_0 bn6_0 bc7_0)
noncomputable def ammonitelaw11_CardAll.m21 (all12 : Int) (bt4_0 : Bool) (bx5_0 : (List D25)) (bk10_0 : Int) (bm11_0 : Int) : St := mkSt [(4, (.ptr 4 0)), (5, (.ptr 5 0)), (10, (.ptr 10 0)), (11, (.ptr 11 0)), (12, (.d (.int .i64) (all12 : Int)))] [(4, (.box [(.d .bool (bt4_0 : Bool))])), (5, (.box [(.d (.slice T25) (bx5_0 : (List D25)))])), (10, (.box [(.d (.int .i64) (bk10_0 : Int))])), (11, (.box [(.d (.int .i64) (bm11_0 : Int))]))]
noncomputable def ammonitelaw11_CardAll.r21 (K : Nat)  (l : List D25) : St → Option Bool := rangeAt [.r, .r, .r, .r, .r, .r, .r, .r, .l, .r, .b] ammonitelaw11_CardAll.code (ammonitelaw11_CardAll.C K) (ammonitelaw11_CardAll.ret K) [] (.prod (.int .i64) (.prod (.slice .str) .unit)) l
noncomputable def ammonitelaw11_CardAll.i21 (K : Nat)  (l : List D25) (all12 : Int) (bt4_0 : Bool) (bx5_0 : (List D25)) (bk10_0 : Int) (bm11_0 : Int) : Option Bool := ammonitelaw11_CardAll.r21 K l (ammonitelaw11_CardAll.m21 all12 bt4_0 bx5_0 bk10_0 bm11_0)
noncomputable def ammonitelaw11_CardAll.m24 (all12 : Int) (t91 : (List D25)) (t92 : Int) (t93 : Int) (bt4_0 : Bool) (bx5_0 : (List D25)) (bk10_0 : Int) (bm11_0 : Int) : St := mkSt [(4, (.ptr 4 0)), (5, (.ptr 5 0)), (10, (.ptr 10 0)), (11, (.ptr 11 0)), (12, (.d (.int .i64) (all12 : Int))), (91, (.d (.slice T25) (t91 : (List D25)))), (92, (.d (.int .i64) (t92 : Int))), (93, (.d (.int .i64) (t93 : Int)))] [(4, (.box [(.d .bool (bt4_0 : Bool))])), (5, (.box [(.d (.slice T25) (bx5_0 : (List D25)))])), (10, (.box [(.d (.int .i64) (bk10_0 : Int))])), (11, (.box [(.d (.int .i64) (bm11_0 : Int))]))]
noncomputable def ammonitelaw11_CardAll.r24 (K : Nat)  (n : Nat) : St → Option Bool := loopAt [.r, .r, .r, .r, .r, .r, .r, .r, .r, .l, .r, .b] ammonitelaw11_CardAll.code (ammonitelaw11_CardAll.C K) (ammonitelaw11_CardAll.ret K) [] n
noncomputable def ammonitelaw11_CardAll.l24 (K : Nat)  (n : Nat) (all12 : Int) (t91 : (List D25)) (t92 : Int) (t93 : Int) (bt4_0 : Bool) (bx5_0 : (List D25)) (bk10_0 : Int) (bm11_0 : Int) : Option Bool := ammonitelaw11_CardAll.r24 K n (ammonitelaw11_CardAll.m24 all12 t91 t92 t93 bt4_0 bx5_0 bk10_0 bm11_0)
noncomputable def ammonitelaw11_CardAll.mj15 (cut1 : Int) (t59 : Int) (bt4_0 : Bool) (bx5_0 : (List D25)) (bn6_0 : Int) : St := mkSt [(1, (.d (.int .i64) (cut1 : Int))), (4, (.ptr 4 0)), (5, (.ptr 5 0)), (6, (.ptr 6 0)), (59, (.d (.int .u8) (t59 : Int)))] [(4, (.box [(.d .bool (bt4_0 : Bool))])), (5, (.box [(.d (.slice T25) (bx5_0 : (List D25)))])), (6, (.box [(.d (.int .i64) (bn6_0 : Int))]))]
noncomputable def ammonitelaw11_CardAll.j15 (K : Nat) (ρ6 : St → Option Bool) (cut1 : Int) (t59 : Int) (bt4_0 : Bool) (bx5_0 : (List D25)) (bn6_0 : Int) : Option Bool := pointAt [.r, .r, .r, .r, .l, .r, .b, .o, .r, .r, .l, .r] ammonitelaw11_CardAll.code (ammonitelaw11_CardAll.C K) (ammonitelaw11_CardAll.ret K) [ρ6] (ammonitelaw11_CardAll.mj15 cut1 t59 bt4_0 bx5_0 bn6_0)
theorem ammonitelaw11_CardAll.eq (K : Nat) (l0 : (List D25)) (cut1 : Int) : ammonitelaw11_CardAll.f K (l0, cut1, ()) =
  (((ammonitelaw11_cards.f K (l0, false, ())).bind fun v_1 =>
   ((card_Right.f K (([((65 : Int), (([] : (List (List UInt8))), ()))] : List D25), ())).bind fun v_2 =>
    (bif (!v_2) then
      (some false)
    else
      (ammonitelaw11_CardAll.l6 K K cut1 false v_1 (0 : Int) (65 : Int))))) : Option Bool) := by kernel_rfl
theorem ammonitelaw11_CardAll.l6_zero (K : Nat)  (cut1 : Int) (bt4_0 : Bool) (bx5_0 : (List D25)) (bn6_0 : Int) (bc7_0 : Int) : ammonitelaw11_CardAll.l6 K 0 cut1 bt4_0 bx5_0 bn6_0 bc7_0 = none := by kernel_rfl
theorem ammonitelaw11_CardAll.l6_succ (K : Nat)  (n : Nat) (cut1 : Int) (bt4_0 : Bool) (bx5_0 : (List D25)) (bn6_0 : Int) (bc7_0 : Int) : ammonitelaw11_CardAll.l6 K (n + 1) cut1 bt4_0 bx5_0 bn6_0 bc7_0 =
  ((bif (decide (bc7_0 ≤ (90 : Int))) then
    ((card_Of.L (bx5_0, bc7_0, ())).bind fun v_1 =>
     (ammonitelaw11_CardAll.i9 K (ammonitelaw11_CardAll.r6 K n) v_1 cut1 bt4_0 bx5_0 bn6_0 bc7_0))
  else
    (bif (!(decide (bn6_0 = (List.length bx5_0 : Int)))) then
      (bif (decide (bn6_0 = (List.length bx5_0 : Int))) then
        ((ammonitelaw11_CardRuns.f K (())).bind fun v_2 =>
         (some v_2))
      else
        (some false))
    else
      (bif (decide ((List.length bx5_0 : Int) = (0 : Int))) then
        (bif (decide (bn6_0 = (List.length bx5_0 : Int))) then
          ((ammonitelaw11_CardRuns.f K (())).bind fun v_3 =>
           (some v_3))
        else
          (some false))
      else
        ((ammonitebook_Within.f K (cut1, (1 : Int), (4 : Int), ())).bind fun v_4 =>
         (chks [(decide ((0 : Int) < (List.length bx5_0 : Int)))]
          ((card_Of.L (bx5_0, (List.getD bx5_0 (Int.toNat (0 : Int)) (DTy.dflt T25)).1, ())).bind fun v_5 =>
           (ammonitelaw11_CardAll.i21 K v_5 (0 : Int) bt4_0 bx5_0 v_4 (0 : Int)))))))) : Option Bool) := by kernel_rfl
theorem ammonitelaw11_CardAll.i9_nil (K : Nat) (ρ6 : St → Option Bool) (cut1 : Int) (bt4_0 : Bool) (bx5_0 : (List D25)) (bn6_0 : Int) (bc7_0 : Int) : ammonitelaw11_CardAll.i9 K ρ6 [] cut1 bt4_0 bx5_0 bn6_0 bc7_0 =
  ((ammonitelaw11_CardAll.j15 K ρ6 cut1 bc7_0 bt4_0 bx5_0 bn6_0) : Option Bool) := by kernel_rfl
theorem ammonitelaw11_CardAll.i9_cons (K : Nat) (ρ6 : St → Option Bool) (x9 : D25) (l : List D25) (cut1 : Int) (bt4_0 : Bool) (bx5_0 : (List D25)) (bn6_0 : Int) (bc7_0 : Int) : ammonitelaw11_CardAll.i9 K ρ6 (x9 :: l) cut1 bt4_0 bx5_0 bn6_0 bc7_0 =
  ((bif (decide (x9.1 < (0 : Int))) then
    (some false)
  else
    (bif (decide ((List.length bx5_0 : Int) ≤ x9.1)) then
      (some false)
    else
      (chks [(decide ((0 : Int) ≤ x9.1)), (decide (x9.1 < (List.length bx5_0 : Int)))]
       (bif (!(decide ((List.getD bx5_0 (Int.toNat x9.1) (DTy.dflt T25)).1 = bc7_0))) then
         (some false)
       else
         (chks [(decide ((0 : Int) ≤ x9.1)), (decide (x9.1 < (List.length bx5_0 : Int)))]
          ((ammonitebook_Same_string.f K (x9.2.1, (List.getD bx5_0 (Int.toNat x9.1) (DTy.dflt T25)).2.1, ())).bind fun v_1 =>
           (bif (!v_1) then
             (some false)
           else
             (ammonitelaw11_CardAll.i9 K ρ6 l cut1 bt4_0 bx5_0 (IntKind.wrap .i64 (bn6_0 + (1 : Int))) bc7_0)))))))) : Option Bool) := by kernel_rfl
theorem ammonitelaw11_CardAll.i21_nil (K : Nat)  (all12 : Int) (bt4_0 : Bool) (bx5_0 : (List D25)) (bk10_0 : Int) (bm11_0 : Int) : ammonitelaw11_CardAll.i21 K [] all12 bt4_0 bx5_0 bk10_0 bm11_0 =
  ((ammonitelaw11_CardAll.l24 K K all12 bx5_0 (List.length bx5_0 : Int) (0 : Int) bt4_0 bx5_0 bk10_0 bm11_0) : Option Bool) := by kernel_rfl
theorem ammonitelaw11_CardAll.i21_cons (K : Nat)  (x21 : D25) (l : List D25) (all12 : Int) (bt4_0 : Bool) (bx5_0 : (List D25)) (bk10_0 : Int) (bm11_0 : Int) : ammonitelaw11_CardAll.i21 K (x21 :: l) all12 bt4_0 bx5_0 bk10_0 bm11_0 =
  ((bif (decide ((IntKind.wrap .i64 (bm11_0 + (1 : Int))) = bk10_0)) then
    (ammonitelaw11_CardAll.l24 K K all12 bx5_0 (List.length bx5_0 : Int) (0 : Int) bt4_0 bx5_0 bk10_0 (IntKind.wrap .i64 (bm11_0 + (1 : Int))))
  else
    (ammonitelaw11_CardAll.i21 K l all12 bt4_0 bx5_0 bk10_0 (IntKind.wrap .i64 (bm11_0 + (1 : Int))))) : Option Bool) := by kernel_rfl
theorem ammonitelaw11_CardAll.l24_zero (K : Nat)  (all12 : Int) (t91 : (List D25)) (t92 : Int) (t93 : Int) (bt4_0 : Bool) (bx5_0 : (List D25)) (bk10_0 : Int) (bm11_0 : Int) : ammonitelaw11_CardAll.l24 K 0 all12 t91 t92 t93 bt4_0 bx5_0 bk10_0 bm11_0 = none := by kernel_rfl
theorem ammonitelaw11_CardAll.l24_succ (K : Nat)  (n : Nat) (all12 : Int) (t91 : (List D25)) (t92 : Int) (t93 : Int) (bt4_0 : Bool) (bx5_0 : (List D25)) (bk10_0 : Int) (bm11_0 : Int) : ammonitelaw11_CardAll.l24 K (n + 1) all12 t91 t92 t93 bt4_0 bx5_0 bk10_0 bm11_0 =
  ((bif (decide (t93 < t92)) then
    (chks [(decide ((0 : Int) ≤ t93)), (decide (t93 < (List.length t91 : Int)))]
     (chks [(decide ((0 : Int) < (List.length bx5_0 : Int)))]
      (bif (decide ((List.getD t91 (Int.toNat t93) (DTy.dflt T25)).1 = (List.getD bx5_0 (Int.toNat (0 : Int)) (DTy.dflt T25)).1)) then
        (ammonitelaw11_CardAll.l24 K n (IntKind.wrap .i64 (all12 + (1 : Int))) t91 t92 (IntKind.wrap .i64 (t93 + (1 : Int))) bt4_0 bx5_0 bk10_0 bm11_0)
      else
        (ammonitelaw11_CardAll.l24 K n all12 t91 t92 (IntKind.wrap .i64 (t93 + (1 : Int))) bt4_0 bx5_0 bk10_0 bm11_0))))
  else
    (bif (decide (bm11_0 = (if all12 < bk10_0 then all12 else bk10_0))) then
      ((ammonitelaw11_CardRuns.f K (())).bind fun v_1 =>
       (some v_1))
    else
      (some false))) : Option Bool) := by kernel_rfl
theorem ammonitelaw11_CardAll.j15_eq {K : Nat} (hK : 0 < K) (ρ6 : St → Option Bool) (cut1 : Int) (t59 : Int) (bt4_0 : Bool) (bx5_0 : (List D25)) (bn6_0 : Int) : ammonitelaw11_CardAll.j15 K ρ6 cut1 t59 bt4_0 bx5_0 bn6_0 =
  ((ρ6 (ammonitelaw11_CardAll.m6 cut1 bt4_0 bx5_0 bn6_0 (IntKind.wrap .u8 (t59 + (1 : Int))))) : Option Bool) := by
  cases K with
  | zero => exact absurd hK (Nat.lt_irrefl 0)
  | succ K => kernel_rfl
theorem ammonitelaw11_CardAll.tbOk (K : Nat) : TbOk Try.prog (ammonitelaw11_CardAll.tb K) := by
  intro e he
  simp only [ammonitelaw11_CardAll.tb, List.mem_cons, List.not_mem_nil, or_false] at he
  rcases he with rfl | rfl | rfl | rfl | rfl
  · exact ⟨ammonitelaw11_cards.ok K, enters_of Try.func11 (by kernel_rfl) rfl⟩
  · exact ⟨card_Right.ok K, enters_of Try.func12 (by kernel_rfl) rfl⟩
  · exact ⟨ammonitelaw11_CardRuns.ok K, enters_of Try.func3 (by kernel_rfl) rfl⟩
  · exact ⟨ammonitebook_Within.ok K, enters_of Try.func17 (by kernel_rfl) rfl⟩
  · exact ⟨ammonitebook_Same_string.ok K, enters_of Try.func14 (by kernel_rfl) rfl⟩

theorem ammonitelaw11_CardAll.itsOk : ItbOk Try.prog ammonitelaw11_CardAll.its := by
  intro e he
  simp only [ammonitelaw11_CardAll.its, List.mem_cons, List.not_mem_nil, or_false] at he
  rcases he with rfl
  · exact ⟨card_Of.itc, enters_of Try.func13 (by kernel_rfl) rfl⟩

theorem ammonitelaw11_CardAll.ok (K : Nat) : PureC Try.prog 7 ⟨[(.slice T25), (.int .i64)], [.bool], ammonitelaw11_CardAll.f K⟩ :=
  fn_sound (itOk _ _) (E := ammonitelaw11_CardAll.E K) (full_ok tys_ok ammonitelaw11_CardAll.itsOk (ammonitelaw11_CardAll.tbOk K) par_ok bld_ok bty_ok) mixed Try.func7 (c := ammonitelaw11_CardAll.code) (by kernel_rfl) (by kernel_rfl) (by decide) (by kernel_rfl)
end Go.Proofs.Ytlecpcofgnincaa.Ab
