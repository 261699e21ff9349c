/- The walk of squeeze.Press. -/
import Derived.Test.YtjiafbckfnglmaaPr2
import Derived.WalkKit
import Derived.Deep.QuietTactic
import Derived.BigQuiet
set_option linter.unusedSimpArgs false
set_option linter.unusedVariables false
namespace Go.Proofs.Ytjiafbckfnglmaa.Given
open Go.RowKit Go.Proofs.YtjiafbckfnglmaaW.PrintWords Go.WideMaps Go.Maps
theorem wf_nat (i : Nat) (h : i ≤ 1000000) : (Lit.int .i64 (i : Int)).wf = true := by
  have h1 : IntKind.i64.min = -9223372036854775808 := by decide
  have h2 : IntKind.i64.max = 9223372036854775807 := by decide
  simp [Lit.wf, h1, h2]
  omega
theorem press_step {H : Type} {P : Program} {k : TypeId} {R : Value → Option (DataW H × List MemPlace)} {D : DataW H} {gh g g' ga mg n : Nat} {w w8 w9 wa : World} (OM : w8.ownsMap P k R mg n D) (BW : Below gh w w8) (hl : g < w8.heap.size) (hgg : gh ≤ g) (hne : g ≠ mg)
    (OG8 : w8.grownBy w9 (some g)) (HG8 : g' = g ∨ w8.heap.size ≤ g') (OG9 : w9.grownBy wa (some g')) (HG9 : ga = g' ∨ w9.heap.size ≤ ga) : wa.ownsMap P k R mg n D ∧ Below gh w wa ∧ gh ≤ ga ∧ ga ≠ mg := by
  have hm := OM.lt
  have h1 : g' ≠ mg := by omega
  have h2 : gh ≤ g' := by omega
  have s8 := OG8.size
  have O9 : w9.ownsMap P k R mg n D := OM.kept OG8 (by intro e; injection e with e; exact hne e.symm)
  have hm9 := O9.lt
  have B9 : Below gh w w9 := pw_below_grown BW _ (by omega) OG8 (by intro k hk; injection hk with hk; omega)
  exact ⟨O9.kept OG9 (by intro e; injection e with e; exact h1 e.symm), pw_below_grown B9 _ (by omega) OG9 (by intro k hk; injection hk with hk; omega), by omega, by omega⟩
set_option maxHeartbeats 4000000 in
set_option maxRecDepth 100000 in
theorem press_loop (s : ByteArray) (w : World) (r : ByteArray) (h : squeeze_Press.f s = some r) : Calls Try.prog 6 #[.string s] w fun e w' => e = .returned (.string r) ∧ Below w.heap.size w w' := by
  have HF := Aside0.mk h
  clear h
  have info5 : ∃ i, Try.prog.info? 5 = some i ∧ i.zero = some (.int .u8 0) ∧ i.size = 1 ∧ i.bytes = 1 := ⟨_, rfl, rfl, rfl, rfl⟩
  obtain ⟨inf, f1, f2, f3, f4⟩ := info5
  have F1 := Aside0.mk f1
  have F2 := Aside0.mk f2
  have F3 := Aside0.mk f3
  have F4 := Aside0.mk f4
  clear f1 f2 f3 f4
  have U26 : Aside0 (Try.prog.underlying 30 = some (.slice 5)) := ⟨by kernel_rfl⟩
  have UM : Aside0 (Try.prog.underlying 38 = some (.map 9 3)) := ⟨by kernel_rfl⟩
  have U9 : Aside0 (Try.prog.underlying 9 = some .string) := ⟨by kernel_rfl⟩
  have U3 : Aside0 (Try.prog.underlying 3 = some (.int .i64)) := ⟨by kernel_rfl⟩
  have Z3 : Aside0 (∀ w, (zeroValue 3).run Try.prog w = .ok (.int .i64 0) w) := ⟨fun w => by kernel_rfl⟩
  have U5 : Aside0 (Try.prog.underlying 5 = some (.int .u8)) := ⟨by kernel_rfl⟩
  obtain ⟨gh, hgh⟩ : ∃ gh, gh = w.heap.size := ⟨_, rfl⟩
  have HGH := Aside0.mk hgh
  have hmm := @run_makeMap Try.prog
  go_enter Try.func6, Try.ntmps6
  rw [← hgh]
  clear hgh
  by_cases h6 : 60000 < s.size
  · have H2 := HF.out
    rw [squeeze_Press.f, if_pos h6] at H2
    injection H2 with H2
    subst H2
    go_wp2
    go_ret
    exact ⟨rfl, by rw [HGH.out]; exact Below.refl _ _⟩
  · have H2 := HF.out
    rw [squeeze_Press.f, if_neg h6] at H2
    obtain ⟨d, hd, H3⟩ := Option.bind_eq_some_iff.mp H2
    split at H3
    rotate_left
    · exact absurd H3 (by simp)
    rename_i hd1
    have HD := Aside0.mk hd
    have H4 := Aside0.mk H3
    have HD1 := Aside0.mk hd1
    have hb3 : (9223372036854775807 < d.size + 1) = False := eq_false (by omega)
    clear hd H3 H2 HF hd1
    go_wp2_with (first | (go_at_call 13; refine (V.digit_Dec.calls 100 _ _ _ HD.out).mono ?_; rintro e' w1 ⟨rfl, hb⟩; have HB := Aside0.mk hb; clear hb) | ((with_reducible refine gate_dst (N := 18) rfl ?_); refine conv_row rfl 9 30 (.tmp 17) rfl _ rfl U9.out U26.out U5.out (by rw [ByteArray.size_append]; show d.size + 1 ≤ 2000000; have := HD1.out; omega) ?_; intro c w2 r1 r2 r3; have RW := Aside0.mk r1; have RG := Aside0.mk r2; have RS := Aside0.mk r3; clear r1 r2 r3))
    obtain ⟨out0, ho⟩ : ∃ out0, out0 = d ++ (⟨#[59]⟩ : ByteArray) := ⟨_, rfl⟩
    have hos : d.size + 1 = out0.size := by rw [ho, ByteArray.size_append]; rfl
    have hos1 : out0.size ≤ 1000001 := by rw [← hos]; have := HD1.out; omega
    rw [← ho] at RW H4
    obtain ⟨g0, hg0⟩ : ∃ g0, g0 = w1.heap.size := ⟨_, rfl⟩
    have OM : Aside0 ((w2.alloc (.map #[] 0)).ownsMap Try.prog 9 (plainElem (H := Unit) Try.prog 3) w2.heap.size 0 (.map [])) := ⟨World.ownsMap_made _ _ _ _⟩
    have hgr : w2.grownBy (w2.alloc (.map #[] 0)) none := World.grownBy_alloc _ _ _
    have RW' : Aside0 (RowS (w2.alloc (.map #[] 0)) g0 c out0) := ⟨by rw [hg0]; exact RW.out.grown hgr (by simp)⟩
    have B1 : gh ≤ w1.heap.size := by rw [HGH.out]; exact HB.out.size
    have BW : Aside0 (Below gh w (w2.alloc (.map #[] 0))) := ⟨by
      have h1 : Below gh w w1 := by rw [HGH.out]; exact HB.out
      have h2 := pw_below_grown h1 none B1 RG.out (by intro k hk; cases hk)
      exact pw_below_grown h2 none (by have := RS.out; omega) hgr (by intro k hk; cases hk)⟩
    have hgle : gh ≤ g0 := by omega
    have hgne : g0 < w2.heap.size := by have := RS.out; omega
    have hghm : gh ≤ w2.heap.size := by omega
    rw [← hg0, hos]
    clear RW RG RS HB hgr B1 hg0 ho HD1 hb3 hos
    generalize w2.alloc (.map #[] 0) = w3 at OM RW' BW ⊢
    have hs6 : s.size ≤ 60000 := by omega
    clear h6
    go_loopw [3, 5, 6, 7, 8, 9, 10] (fun v3 v5 v6 v7 v8 v9 v10 wr => ∃ (t : Nat) (out : ByteArray) (M : ByteArray → Option Nat) (done i g c n m : Nat) (D : DataW Unit),
        v3 = .slice (some ⟨g, 0, none⟩) n c ∧ v5 = .int .i64 (done : Int) ∧ v6 = .int .i64 (i : Int) ∧ n = out.size ∧ n ≤ 1000010 ∧ done ≤ i ∧ i ≤ s.size ∧ m ≤ i ∧ gh ≤ g ∧ g ≠ w2.heap.size ∧ MRel D M ∧ Aside0 (pressL s t out M done i = some r) ∧ Aside0 (RowS wr g c out) ∧ Aside0 (wr.ownsMap Try.prog 9 (plainElem (H := Unit) Try.prog 3) w2.heap.size m D) ∧ Aside0 (Below gh w wr))
      (fun _ _ v6 _ _ _ _ _ => s.size + 4 - (intOf v6).toNat)
    case atStart => exact ⟨60001, out0, _, 0, 0, g0, c, _, 0, _, rfl, rfl, rfl, rfl, by omega, by omega, by omega, by omega, hgle, by omega, MRel.nil, H4, RW', OM, BW⟩
    case round =>
      clear RW' OM BW H4
      obtain ⟨t, out, M, done, i, g, c, n, m, D, rfl, rfl, rfl, hn, hn2, hdi, his, hmi, hgg, hggm, HM, HP, RW, OM, BW⟩ := hrel
      obtain ⟨t, rfl⟩ : ∃ t', t = t' + 1 := by
        cases t with
        | zero => exact absurd HP.out (by simp [pressL])
        | succ t => exact ⟨t, rfl⟩
      by_cases hi : i + 4 ≤ s.size
      · obtain ⟨key, hkey⟩ : ∃ key, key = s.extract i (i + 4) := ⟨_, rfl⟩
        have hks : key.size = 4 := by rw [hkey, ByteArray.size_extract]; omega
        have hP := HP.out
        rw [pressL, if_pos hi, ← hkey] at hP
        have p0 : (0 : Int) ≤ (i : Int) := by omega
        have p1 : (i : Int) ≤ (i : Int) + 4 := by omega
        have p2 : (i : Int) + 4 ≤ (s.size : Int) := by omega
        have pt : ((i : Int) + 4).toNat = i + 4 := by omega
        clear HP
        have HK := Aside0.mk hkey
        have HWF := Aside0.mk (wf_nat i (by omega))
        have HKS := Aside0.mk hks
        have HM' := Aside0.mk HM
        clear HM hkey hks
        cases hMk : M key with
        | none =>
          rw [hMk] at hP
          have HP := Aside0.mk hP
          have HMK := Aside0.mk hMk
          clear hP hMk
          go_wp2_with (first | (at_lookup; refine map_look rfl _ _ 38 rfl 9 3 U9.out UM.out U3.out (Z3.out _) w2.heap.size m D M HM'.out rfl OM.out key (by rw [HKS.out]; omega) (by rw [HK.out]; rfl) ?_; rw [HMK.out]) | (at_mapUpdate; go_loud (refine wpList_mapUpdate_own _ rfl _ _ _ 38 rfl 9 3 (string_keyed U9.out) UM.out _ w2.heap.size m D rfl OM.out (by unfold maxLen; omega) (.string key) _ (.string key.data.toList) (by rw [HK.out]; rfl) rfl (keyOf_string_mk U9.out (by rw [HKS.out]; unfold maxLen; omega)) (.lit (.int .i64 (i : Int))) [] (plainElem_int U3.out HWF.out) ?_); intro w5 r1 r2; have OM2 := Aside0.mk r1; have OG := Aside0.mk r2; clear r1 r2))
          have hne : (some g : Option Nat) ≠ some w2.heap.size := by intro e; injection e with e; exact hggm e
          exact ⟨⟨t, out, upd M key i, done, i + 1, g, c, _, m + 1, _, rfl, rfl, by go_num, rfl, by omega, by omega, by omega, by omega, hgg, hggm, HM'.out.put key i, HP, ⟨RW.out.grown OG.out hne⟩, OM2, ⟨pw_below_grown BW.out _ (Nat.le_trans hgg (Nat.le_of_lt RW.out.lt)) OG.out (by intro k hk; cases hk; exact hghm)⟩⟩, by simp [intOf]; omega⟩
        | some p =>
          rw [hMk] at hP
          obtain ⟨b, hb, hP2⟩ := Option.bind_eq_some_iff.mp hP
          split at hP2
          rotate_left
          · exact absurd hP2 (by simp)
          rename_i hpb
          obtain ⟨hpi, hpb⟩ := hpb
          have HP := Aside0.mk hP2
          have HBB := Aside0.mk hb
          have HMK := Aside0.mk hMk
          have HPB := Aside0.mk hpb
          clear hP hMk hb hP2 hpb
          go_wp2_with (first | (at_lookup; refine map_look rfl _ _ 38 rfl 9 3 U9.out UM.out U3.out (Z3.out _) w2.heap.size m D M HM'.out rfl OM.out key (by rw [HKS.out]; omega) (by rw [HK.out]; rfl) ?_; rw [HMK.out]) | (at_mapUpdate; go_loud (refine wpList_mapUpdate_own _ rfl _ _ _ 38 rfl 9 3 (string_keyed U9.out) UM.out _ w2.heap.size m D rfl OM.out (by unfold maxLen; omega) (.string key) _ (.string key.data.toList) (by rw [HK.out]; rfl) rfl (keyOf_string_mk U9.out (by rw [HKS.out]; unfold maxLen; omega)) (.lit (.int .i64 (i : Int))) [] (plainElem_int U3.out HWF.out) ?_); intro w5 r1 r2; have OM2 := Aside0.mk r1; have OG := Aside0.mk r2; clear r1 r2))
          have hne : (some g : Option Nat) ≠ some w2.heap.size := by intro e; injection e with e; exact hggm e
          have RW5 : Aside0 (RowS w5 g c out) := ⟨RW.out.grown OG.out hne⟩
          have BW5 : Aside0 (Below gh w w5) := ⟨pw_below_grown BW.out _ (Nat.le_trans hgg (Nat.le_of_lt RW.out.lt)) OG.out (by intro k hk; cases hk; exact hghm)⟩
          have MR5 := Aside0.mk (HM'.out.put key i)
          clear RW BW OG OM HM' HMK hne p0 p1 p2 pt
          obtain ⟨N, hN⟩ : ∃ N, N = mrun s p i 126 4 := ⟨_, rfl⟩
          rw [← hN] at HP
          go_loopw [10] (fun v10 w6 => ∃ n : Nat, 4 ≤ n ∧ n ≤ 130 ∧ i + n ≤ s.size ∧ v10 = .int .i64 (n : Int) ∧ mrun s p i (130 - n) n = N ∧ Aside0 (RowS w6 g c out) ∧ Aside0 (w6.ownsMap Try.prog 9 (plainElem (H := Unit) Try.prog 3) w2.heap.size (m + 1) (D.put (.string key.data.toList) (.lit (.int .i64 (i : Int))))) ∧ Aside0 (Below gh w w6)) (fun v10 _ => 130 - (intOf v10).toNat)
          case atStart => exact ⟨4, by omega, by omega, by omega, rfl, hN.symm, RW5, OM2, BW5⟩
          case round =>
            clear RW5 OM2 BW5 hN
            obtain ⟨q, hq4, hq130, hqs, rfl, hqN, RW5, OM2, BW5⟩ := hrel
            have hb1 : ∀ h, ((s[((p : Int) + (q : Int)).toNat]'h).toNat : Int) = bt s ((p : Int) + q) := bt_at s _
            have hb2 : ∀ h, ((s[((i : Int) + (q : Int)).toNat]'h).toNat : Int) = bt s ((i : Int) + q) := bt_at s _
            by_cases hc : q < 130 ∧ i + q < s.size ∧ bt s ((p : Int) + q) = bt s ((i : Int) + q)
            · obtain ⟨c1, c2, c3⟩ := hc
              have c1' : (q : Int) < 130 := by omega
              have c2' : (i : Int) + (q : Int) < (s.size : Int) := by omega
              have c4' : (p : Int) + (q : Int) < (s.size : Int) := by omega
              have c5' : (0 : Int) ≤ (p : Int) + (q : Int) := by omega
              have c6' : (0 : Int) ≤ (i : Int) + (q : Int) := by omega
              have ww1 : IntKind.i64.wrap ((p : Int) + (q : Int)) = (p : Int) + q := IntWalk.i64_in _ (by omega)
              have ww2 : IntKind.i64.wrap ((i : Int) + (q : Int)) = (i : Int) + q := IntWalk.i64_in _ (by omega)
              go_wp2
              go_quiet (fail)
              (generalize hdn_ : World.drewN wr _ = w7 at ⊢; obtain ⟨n_, hdn_⟩ : ∃ n, World.drewN wr n = w7 := ⟨_, hdn_⟩)
              have RW6 : Aside0 (RowS w7 g c out) := ⟨by rw [← hdn_]; exact RW5.out⟩
              have OM6 : Aside0 (w7.ownsMap Try.prog 9 (plainElem (H := Unit) Try.prog 3) w2.heap.size (m + 1) (D.put (.string key.data.toList) (.lit (.int .i64 (i : Int))))) := ⟨by rw [← hdn_]; exact OM2.out⟩
              have BW6 : Aside0 (Below gh w w7) := ⟨by rw [← hdn_]; exact pw_below_drewN BW5.out n_⟩
              clear hdn_ RW5 OM2 BW5
              go_wp2
              go_roundw
              case rel => exact ⟨q + 1, by omega, by omega, by omega, by go_num, by
                have e : 130 - q = (130 - (q + 1)) + 1 := by omega
                rw [e, mrun, if_pos ⟨c1, c2, by simpa using c3⟩] at hqN
                exact hqN, RW6, OM6, BW6⟩
              case measure => simp [intOf]; omega
            · have hN : q = N := by
                rw [← hqN]
                by_cases hq : q = 130
                · subst hq; rfl
                · have e : 130 - q = (130 - (q + 1)) + 1 := by omega
                  rw [e, mrun, if_neg (by simpa using hc)]
              subst hN
              have h3 : q = 130 ∨ (q < 130 ∧ i + q = s.size) ∨ (q < 130 ∧ i + q < s.size ∧ ¬ bt s ((p : Int) + q) = bt s ((i : Int) + q)) := by
                by_cases e1 : q < 130
                · by_cases e2 : i + q < s.size
                  · exact .inr (.inr ⟨e1, e2, fun e3 => hc ⟨e1, e2, e3⟩⟩)
                  · exact .inr (.inl ⟨e1, by omega⟩)
                · exact .inl (by omega)
              clear hc hqN
              have ww1 : IntKind.i64.wrap ((p : Int) + (q : Int)) = (p : Int) + q := IntWalk.i64_in _ (by omega)
              have ww2 : IntKind.i64.wrap ((i : Int) + (q : Int)) = (i : Int) + q := IntWalk.i64_in _ (by omega)
              have c5' : (0 : Int) ≤ (p : Int) + (q : Int) := by omega
              have c6' : (0 : Int) ≤ (i : Int) + (q : Int) := by omega
              rcases h3 with h3 | ⟨c1, c2⟩ | ⟨c1, c2, c3⟩
              · have c1' : ¬ (q : Int) < 130 := by omega
                go_wp2
                go_quiet (fail)
                (generalize hdn_ : World.drewN wr _ = w7 at ⊢; obtain ⟨n_, hdn_⟩ : ∃ n, World.drewN wr n = w7 := ⟨_, hdn_⟩)
                have RW6 : Aside0 (RowS w7 g c out) := ⟨by rw [← hdn_]; exact RW5.out⟩
                have OM6 : Aside0 (w7.ownsMap Try.prog 9 (plainElem (H := Unit) Try.prog 3) w2.heap.size (m + 1) (D.put (.string key.data.toList) (.lit (.int .i64 (i : Int))))) := ⟨by rw [← hdn_]; exact OM2.out⟩
                have BW6 : Aside0 (Below gh w w7) := ⟨by rw [← hdn_]; exact pw_below_drewN BW5.out n_⟩
                clear hdn_ RW5 OM2 BW5
                have d0 : (0 : Int) ≤ (done : Int) := by omega
                have d1 : (done : Int) ≤ (i : Int) := by omega
                have d2 : (i : Int) ≤ (s.size : Int) := by omega
                have z8 : gh ≤ w7.heap.size := by have := RW6.out.lt; omega
                have Z8 := Aside0.mk z8
                clear z8
                go_wp2_with (first | (go_at_call 14; refine (V.squeeze_plains.calls 1000 _ _ _ HBB.out).mono ?_; rintro e' w8 ⟨rfl, hb⟩; have WB := Aside0.mk hb; clear hb; have RW7 : Aside0 (RowS w8 g c out) := ⟨RW6.out.grown (grown_of_below WB.out none) (by simp)⟩; have OM7 := Aside0.mk (OM6.out.kept (grown_of_below WB.out none) (by simp)); have BW7 : Aside0 (Below gh w w8) := ⟨below_then BW6.out Z8.out WB.out⟩; clear RW6 OM6 BW6 WB) | (at_builtin; refine append_str rfl (.tmp 68) (.tmp 73) 30 9 rfl U26.out U9.out inf F1.out F2.out F3.out F4.out g c out b rfl rfl RW7.out (by have := HPB.out; omega) ?_; intro g' c' w9 r1 r2 r3; have RW8 := Aside0.mk r1; have OG8 := Aside0.mk r2; have HG8 := Aside0.mk r3; clear r1 r2 r3) | (at_builtin; refine append_three rfl (.tmp 75) (.tmp 89) 30 rfl U26.out inf F1.out F2.out F3.out F4.out g' c' (out ++ b) _ q (i - p) _ _ _ rfl (by rw [ByteArray.size_append]) rfl (by omega) (by omega) (by omega) RW8.out (by rw [ByteArray.size_append]; exact HPB.out) ?_; intro ga ca wa r1 r2 r3; have RW9 := Aside0.mk r1; have OG9 := Aside0.mk r2; have HG9 := Aside0.mk r3; clear r1 r2 r3))
                obtain ⟨OMa, BWa, hga, hgan⟩ := press_step OM7.out BW7.out RW7.out.lt hgg hggm OG8.out HG8.out OG9.out HG9.out
                have hqs' : i + q ≤ s.size := by omega
                have hsz : ((out ++ b) ++ again q (i - p)).size = out.size + b.size + 3 := by rw [ByteArray.size_append, ByteArray.size_append]; rfl
                have hpb := HPB.out
                exact ⟨⟨t, (out ++ b) ++ again q (i - p), upd M key i, i + q, i + q, ga, ca, _, m + 1, _, rfl, (by first | go_num | (rw [h3]; go_num)), (by first | go_num | (rw [h3]; go_num)), by rw [hsz], by omega, by omega, by omega, by omega, hga, hgan, MR5.out, HP, RW9, ⟨OMa⟩, ⟨BWa⟩⟩, by simp [intOf]; omega⟩
              · have c1' : (q : Int) < 130 := by omega
                have c2' : (s.size : Int) ≤ (i : Int) + (q : Int) := by omega
                have c2d : decide ((i : Int) + (q : Int) < (s.size : Int)) = false := decide_eq_false (by omega)
                have c2e : ((i : Int) + (q : Int) < (s.size : Int)) = False := eq_false (by omega)
                clear c2
                go_wp2
                go_quiet (fail)
                (generalize hdn_ : World.drewN wr _ = w7 at ⊢; obtain ⟨n_, hdn_⟩ : ∃ n, World.drewN wr n = w7 := ⟨_, hdn_⟩)
                have RW6 : Aside0 (RowS w7 g c out) := ⟨by rw [← hdn_]; exact RW5.out⟩
                have OM6 : Aside0 (w7.ownsMap Try.prog 9 (plainElem (H := Unit) Try.prog 3) w2.heap.size (m + 1) (D.put (.string key.data.toList) (.lit (.int .i64 (i : Int))))) := ⟨by rw [← hdn_]; exact OM2.out⟩
                have BW6 : Aside0 (Below gh w w7) := ⟨by rw [← hdn_]; exact pw_below_drewN BW5.out n_⟩
                clear hdn_ RW5 OM2 BW5
                have d0 : (0 : Int) ≤ (done : Int) := by omega
                have d1 : (done : Int) ≤ (i : Int) := by omega
                have d2 : (i : Int) ≤ (s.size : Int) := by omega
                have z8 : gh ≤ w7.heap.size := by have := RW6.out.lt; omega
                have Z8 := Aside0.mk z8
                clear z8
                go_wp2_with (first | (go_at_call 14; refine (V.squeeze_plains.calls 1000 _ _ _ HBB.out).mono ?_; rintro e' w8 ⟨rfl, hb⟩; have WB := Aside0.mk hb; clear hb; have RW7 : Aside0 (RowS w8 g c out) := ⟨RW6.out.grown (grown_of_below WB.out none) (by simp)⟩; have OM7 := Aside0.mk (OM6.out.kept (grown_of_below WB.out none) (by simp)); have BW7 : Aside0 (Below gh w w8) := ⟨below_then BW6.out Z8.out WB.out⟩; clear RW6 OM6 BW6 WB) | (at_builtin; refine append_str rfl (.tmp 68) (.tmp 73) 30 9 rfl U26.out U9.out inf F1.out F2.out F3.out F4.out g c out b rfl rfl RW7.out (by have := HPB.out; omega) ?_; intro g' c' w9 r1 r2 r3; have RW8 := Aside0.mk r1; have OG8 := Aside0.mk r2; have HG8 := Aside0.mk r3; clear r1 r2 r3) | (at_builtin; refine append_three rfl (.tmp 75) (.tmp 89) 30 rfl U26.out inf F1.out F2.out F3.out F4.out g' c' (out ++ b) _ q (i - p) _ _ _ rfl (by rw [ByteArray.size_append]) rfl (by omega) (by omega) (by omega) RW8.out (by rw [ByteArray.size_append]; exact HPB.out) ?_; intro ga ca wa r1 r2 r3; have RW9 := Aside0.mk r1; have OG9 := Aside0.mk r2; have HG9 := Aside0.mk r3; clear r1 r2 r3))
                obtain ⟨OMa, BWa, hga, hgan⟩ := press_step OM7.out BW7.out RW7.out.lt hgg hggm OG8.out HG8.out OG9.out HG9.out
                have hqs' : i + q ≤ s.size := by omega
                have hsz : ((out ++ b) ++ again q (i - p)).size = out.size + b.size + 3 := by rw [ByteArray.size_append, ByteArray.size_append]; rfl
                have hpb := HPB.out
                exact ⟨⟨t, (out ++ b) ++ again q (i - p), upd M key i, i + q, i + q, ga, ca, _, m + 1, _, rfl, (by first | go_num | (rw [h3]; go_num)), (by first | go_num | (rw [h3]; go_num)), by rw [hsz], by omega, by omega, by omega, by omega, hga, hgan, MR5.out, HP, RW9, ⟨OMa⟩, ⟨BWa⟩⟩, by simp [intOf]; omega⟩
              · have c1' : (q : Int) < 130 := by omega
                have c2' : (i : Int) + (q : Int) < (s.size : Int) := by omega
                have c4' : (p : Int) + (q : Int) < (s.size : Int) := by omega
                go_wp2
                go_quiet (fail)
                (generalize hdn_ : World.drewN wr _ = w7 at ⊢; obtain ⟨n_, hdn_⟩ : ∃ n, World.drewN wr n = w7 := ⟨_, hdn_⟩)
                have RW6 : Aside0 (RowS w7 g c out) := ⟨by rw [← hdn_]; exact RW5.out⟩
                have OM6 : Aside0 (w7.ownsMap Try.prog 9 (plainElem (H := Unit) Try.prog 3) w2.heap.size (m + 1) (D.put (.string key.data.toList) (.lit (.int .i64 (i : Int))))) := ⟨by rw [← hdn_]; exact OM2.out⟩
                have BW6 : Aside0 (Below gh w w7) := ⟨by rw [← hdn_]; exact pw_below_drewN BW5.out n_⟩
                clear hdn_ RW5 OM2 BW5
                have d0 : (0 : Int) ≤ (done : Int) := by omega
                have d1 : (done : Int) ≤ (i : Int) := by omega
                have d2 : (i : Int) ≤ (s.size : Int) := by omega
                have z8 : gh ≤ w7.heap.size := by have := RW6.out.lt; omega
                have Z8 := Aside0.mk z8
                clear z8
                go_wp2_with (first | (go_at_call 14; refine (V.squeeze_plains.calls 1000 _ _ _ HBB.out).mono ?_; rintro e' w8 ⟨rfl, hb⟩; have WB := Aside0.mk hb; clear hb; have RW7 : Aside0 (RowS w8 g c out) := ⟨RW6.out.grown (grown_of_below WB.out none) (by simp)⟩; have OM7 := Aside0.mk (OM6.out.kept (grown_of_below WB.out none) (by simp)); have BW7 : Aside0 (Below gh w w8) := ⟨below_then BW6.out Z8.out WB.out⟩; clear RW6 OM6 BW6 WB) | (at_builtin; refine append_str rfl (.tmp 68) (.tmp 73) 30 9 rfl U26.out U9.out inf F1.out F2.out F3.out F4.out g c out b rfl rfl RW7.out (by have := HPB.out; omega) ?_; intro g' c' w9 r1 r2 r3; have RW8 := Aside0.mk r1; have OG8 := Aside0.mk r2; have HG8 := Aside0.mk r3; clear r1 r2 r3) | (at_builtin; refine append_three rfl (.tmp 75) (.tmp 89) 30 rfl U26.out inf F1.out F2.out F3.out F4.out g' c' (out ++ b) _ q (i - p) _ _ _ rfl (by rw [ByteArray.size_append]) rfl (by omega) (by omega) (by omega) RW8.out (by rw [ByteArray.size_append]; exact HPB.out) ?_; intro ga ca wa r1 r2 r3; have RW9 := Aside0.mk r1; have OG9 := Aside0.mk r2; have HG9 := Aside0.mk r3; clear r1 r2 r3))
                obtain ⟨OMa, BWa, hga, hgan⟩ := press_step OM7.out BW7.out RW7.out.lt hgg hggm OG8.out HG8.out OG9.out HG9.out
                have hqs' : i + q ≤ s.size := by omega
                have hsz : ((out ++ b) ++ again q (i - p)).size = out.size + b.size + 3 := by rw [ByteArray.size_append, ByteArray.size_append]; rfl
                have hpb := HPB.out
                exact ⟨⟨t, (out ++ b) ++ again q (i - p), upd M key i, i + q, i + q, ga, ca, _, m + 1, _, rfl, (by first | go_num | (rw [h3]; go_num)), (by first | go_num | (rw [h3]; go_num)), by rw [hsz], by omega, by omega, by omega, by omega, hga, hgan, MR5.out, HP, RW9, ⟨OMa⟩, ⟨BWa⟩⟩, by simp [intOf]; omega⟩
      · have hP := HP.out
        rw [pressL, if_neg hi] at hP
        obtain ⟨b, hb, hP2⟩ := Option.bind_eq_some_iff.mp hP
        split at hP2
        rotate_left
        · exact absurd hP2 (by simp)
        rename_i hpb
        injection hP2 with hr
        have HR' := Aside0.mk hr
        have HBB := Aside0.mk hb
        have HPB := Aside0.mk hpb
        clear hP HP hb hr hpb HM
        have p2 : ¬ (i : Int) + 4 ≤ (s.size : Int) := by omega
        have d0 : (0 : Int) ≤ (done : Int) := by omega
        have d1 : (done : Int) ≤ (s.size : Int) := by omega
        have z8 : gh ≤ wr.heap.size := by have := RW.out.lt; omega
        have Z8 := Aside0.mk z8
        clear z8
        go_wp2_with (first | (go_at_call 14; refine (V.squeeze_plains.calls 1000 _ _ _ HBB.out).mono ?_; rintro e' w8 ⟨rfl, hb⟩; have WB := Aside0.mk hb; clear hb; have RW7 : Aside0 (RowS w8 g c out) := ⟨RW.out.grown (grown_of_below WB.out none) (by simp)⟩; have BW7 : Aside0 (Below gh w w8) := ⟨below_then BW.out Z8.out WB.out⟩; clear RW BW WB) | (at_builtin; refine append_str rfl (.tmp 95) (.tmp 99) 30 9 rfl U26.out U9.out inf F1.out F2.out F3.out F4.out g c out b rfl rfl RW7.out (by have := HPB.out; omega) ?_; intro g' c' w9 r1 r2 r3; have RW8 := Aside0.mk r1; have OG8 := Aside0.mk r2; clear r1 r2 r3; have hcv := RW8.out.string 30 9 U26.out U5.out U9.out; rw [ByteArray.size_append] at hcv))
        go_ret
        exact ⟨by rw [HR'.out]; rfl, pw_below_grown BW7.out _ (by have := RW7.out.lt; omega) OG8.out (by intro k hk; injection hk with hk; omega)⟩
end Go.Proofs.Ytjiafbckfnglmaa.Given
