/- wire.Body, walked. -/
import Derived.Test.YtldbhkhblkgnnaaWr2
set_option linter.unusedVariables false
set_option linter.unusedSimpArgs false
namespace Go.Proofs.Ytldbhkhblkgnnaa.Given
open Go.RowKit Go.Proofs.YtldbhkhblkgnnaaW.PrintWords Go.Proofs.Ytldbhkhblkgnnaa.Q
theorem right_call (u s : ByteArray) (rd : Int) (an pu pl : Bool) (A6 : Option Addr) (c6 : Nat) (ig : List ByteArray) (A7 : Option Addr) (c7 : Nat) (gi : List ByteArray) (A8 : Option Addr) (c8 : Nat) (fs : List SF) (er : Int) (W : World)
    (r6 : Kd.C Kd.string W A6 ig.length ig) (h6 : ig.length ≤ c6) (r7 : Kd.C Kd.string W A7 gi.length gi) (h7 : gi.length ≤ c7) (r8 : Kd.C k46 W A8 fs.length fs) (h8 : fs.length ≤ c8) (hz : Small u s ig gi fs) :
    Calls Try.prog 28 #[.agg #[.string u, .string s, .int .i64 rd, .bool an, .bool pu, .bool pl, .slice A6 ig.length c6, .slice A7 gi.length c7, .slice A8 fs.length c8, .int .i64 er]] W fun e W' => e = .returned (.bool (B.rightB u s rd ig gi fs er)) ∧ Below W.heap.size W W' := by
  obtain ⟨k, hk⟩ := (B.right_ev u s rd an pu pl ig gi fs er hz.u hz.s hz.ig0 hz.ig1 hz.gi0 hz.gi1 hz.fs0 hz.fs1).rounds
  exact wire_Right.calls k u s rd an pu pl A6 c6 ig A7 c7 gi A8 c8 fs er _ W r6 h6 r7 h7 r8 h8 hk
set_option maxRecDepth 100000 in
set_option maxHeartbeats 4000000 in
theorem body_walk (u s : ByteArray) (rd : Int) (an pu pl : Bool) (A6 : Option Addr) (c6 : Nat) (ig : List ByteArray) (A7 : Option Addr) (c7 : Nat) (gi : List ByteArray) (A8 : Option Addr) (c8 : Nat) (fs : List SF) (er : Int) (w : World)
    (r6 : Kd.C Kd.string w A6 ig.length ig) (h6 : ig.length ≤ c6) (r7 : Kd.C Kd.string w A7 gi.length gi) (h7 : gi.length ≤ c7) (r8 : Kd.C k46 w A8 fs.length fs) (h8 : fs.length ≤ c8) (hz : Small u s ig gi fs) :
    Calls Try.prog 22 #[.agg #[.string u, .string s, .int .i64 rd, .bool an, .bool pu, .bool pl, .slice A6 ig.length c6, .slice A7 gi.length c7, .slice A8 fs.length c8, .int .i64 er]] w fun e w' => e = .returned (.string (if B.rightB u s rd ig gi fs er then bodyB rd an pu pl ig gi fs er else ⟨#[]⟩)) ∧ Below w.heap.size w w' := by
  have R6 := Aside0.mk r6
  have R7 := Aside0.mk r7
  have R8 := Aside0.mk r8
  have HZ := Aside0.mk hz
  have FT := Aside0.mk (right_fit (u := u) (s := s) (rd := rd) (ig := ig) (gi := gi) (fs := fs) (er := er))
  have RC := Aside0.mk (fun (W : World) (hb : Below w.heap.size w W) => right_call u s rd an pu pl A6 c6 ig A7 c7 gi A8 c8 fs er W (Kd.C_below r6 hb) h6 (Kd.C_below r7 hb) h7 (Kd.C_below r8 hb) h8 hz)
  have B0 := Aside0.mk ((Below.refl _ w).alloc (Nat.le_refl _) (.cells #[.string u, .string s, .int .i64 rd, .bool an, .bool pu, .bool pl, .slice A6 ig.length c6, .slice A7 gi.length c7, .slice A8 fs.length c8, .int .i64 er] 28))
  have X0 := Aside0.mk (World.alloc_heap_new w (.cells #[.string u, .string s, .int .i64 rd, .bool an, .bool pu, .bool pl, .slice A6 ig.length c6, .slice A7 gi.length c7, .slice A8 fs.length c8, .int .i64 er] 28))
  clear r6 r7 r8 hz
  cases hR : B.rightB u s rd ig gi fs er with
  | false =>
    rw [hR] at RC
    clear hR
    go_enter Try.func22, Try.ntmps22
    go_wp2_with (go_at_call 28; (with_reducible refine (RC.out _ B0.out).mono ?_); rintro e w1 ⟨rfl, hb⟩; have HB := Aside0.mk hb; clear hb)
    go_ret
    exact ⟨rfl, B0.out.trans (HB.out.mono (by simp))⟩
  | true =>
    rw [hR] at RC
    have FT := Aside0.mk (FT.out hR)
    clear hR
    rw [if_pos rfl]
    obtain ⟨msg, hmsg⟩ : ∃ msg : Array Value, msg = #[.string u, .string s, .int .i64 rd, .bool an, .bool pu, .bool pl, .slice A6 ig.length c6, .slice A7 gi.length c7, .slice A8 fs.length c8, .int .i64 er] := ⟨_, rfl⟩
    have HM := Aside0.mk hmsg
    have Y0 : ∀ W, Below (w.heap.size + 1) (w.alloc (.cells #[.string u, .string s, .int .i64 rd, .bool an, .bool pu, .bool pl, .slice A6 ig.length c6, .slice A7 gi.length c7, .slice A8 fs.length c8, .int .i64 er] 28)) W → BC w W.heap.size W.heap.size w.heap.size msg ⟨#[]⟩ (W.alloc (.cells #[.pointer none, .slice none 0 0] 66)) := by
      intro W hb
      have hs := hb.size
      rw [World.size_alloc] at hs
      refine ⟨bd_new W, by rw [HM.out]; exact (Below.heap_alloc _ _ _ (by omega)).trans ((hb.block w.heap.size (by omega)).trans X0.out), by omega, by omega, by simp, ((B0.out.trans (hb.mono (by omega))).alloc (by omega) _)⟩
    have Y0 := Aside0.mk Y0
    clear hmsg
    go_enter Try.func22, Try.ntmps22
    go_wp2_with (first
      | (go_at_call 28; (with_reducible refine (RC.out _ B0.out).mono ?_); rintro e w1 ⟨rfl, hb⟩; rw [World.size_alloc] at hb; have C1 := Aside0.mk (Y0.out w1 hb); have d2 := C1.out.cell 2; rw [HM.out] at d2; clear hb)
      | (go_at_call 31; (with_reducible refine (decT_call rd _).mono ?_); rintro e w2 ⟨rfl, hb⟩; have C2 := Aside0.mk (C1.out.step hb); clear hb C1 d2)
      | (go_at_call 30; (with_reducible refine (line_two RND (decT rd) w2 (by have := decT_size rd; have : RND.size = 5 := rfl; omega)).mono ?_); rintro e w3 ⟨rfl, hb⟩; have C3 := Aside0.mk (C2.out.step hb); clear hb C2)
      | (go_at_call 29; (with_reducible refine (bc_str (lineB [RND, decT rd]) C3.out (by rw [line2_size]; have := decT_size rd; have : RND.size = 5 := rfl; have : (⟨#[]⟩ : ByteArray).size = 0 := rfl; omega)).mono ?_); rintro e w4 ⟨rfl, h1, _⟩; have C4 := Aside0.mk h1; have d3 := C4.out.cell 3; have d4 := C4.out.cell 4; have d5 := C4.out.cell 5; rw [HM.out] at d3 d4 d5; clear h1 C3))
    obtain ⟨b, hb⟩ : ∃ b, w1.heap.size = b := ⟨_, rfl⟩
    obtain ⟨m, hm⟩ : ∃ m, w.heap.size = m := ⟨_, rfl⟩
    obtain ⟨q, hq⟩ : ∃ q, w4.heap.size = q := ⟨_, rfl⟩
    have C5 := Aside0.mk (C4.out.step ((Below.refl _ w4).alloc (Nat.le_refl _) (.cells #[.bool an, .bool pu, .bool pl] 4)))
    have X5 := Aside0.mk (World.alloc_heap_new w4 (.cells #[.bool an, .bool pu, .bool pl] 4))
    have HW := Aside0.mk hm
    have S5 : (lineB [RND, decT rd]).size ≤ 30 := by rw [line2_size]; have := decT_size rd; have : RND.size = 5 := rfl; omega
    rw [show (⟨#[]⟩ : ByteArray) ++ lineB [RND, decT rd] = catL (headN rd an pu pl 0) from rfl] at C5
    rw [show (lineB [RND, decT rd]).size = (catL (headN rd an pu pl 0)).size by show _ = ((⟨#[]⟩ : ByteArray) ++ lineB [RND, decT rd]).size; rw [ByteArray.size_append]; simp; rfl] at S5
    rw [hb, hm] at C5
    rw [hq] at X5
    rw [hb, hm, hq]
    have BW : m ≤ w.heap.size := by omega
    have QB : Aside0 (q ≠ b) := ⟨by have := C4.out.bd; rcases this with h | h <;> (have := h.lt; omega)⟩
    clear C4 d3 d4 d5 X0 Y0 B0 RC hb hm hq
    generalize w4.alloc (.cells #[.bool an, .bool pu, .bool pl] 4) = w5 at C5 X5 ⊢
    go_loopw [30] (fun v wr => ∃ k : Nat, v = .int .i64 (k : Int) ∧ k ≤ 3 ∧ (catL (headN rd an pu pl k)).size ≤ 30 + 20 * k ∧ Aside0 (BC w b b m msg (catL (headN rd an pu pl k)) wr) ∧ Aside0 (wr.heap[q]? = some (.cells #[.bool an, .bool pu, .bool pl] 4 (0, 0)))) (fun v _ => 3 - (intOf v).toNat)
    case atStart => exact ⟨0, rfl, by omega, by omega, C5, X5⟩
    case round =>
      clear C5 X5 S5
      obtain ⟨k, rfl, hk, sz, CC, CX⟩ := hrel
      by_cases hlt : k < 3
      · have qq : Aside0 (q < wr.heap.size) := ⟨(Array.getElem?_eq_some_iff.1 CX.out).1⟩
        have n1 := catL_flag (headN rd an pu pl 0) an ANS
        have n2 := catL_flag (headN rd an pu pl 1) pu PSH
        have n3 := catL_flag (headN rd an pu pl 2) pl PLL
        have N1 := Aside0.mk (show catL (headN rd an pu pl 1) = _ from n1)
        have N2 := Aside0.mk (show catL (headN rd an pu pl 2) = _ from n2)
        have N3 := Aside0.mk (show catL (headN rd an pu pl 3) = _ from n3)
        clear n1 n2 n3
        rcases (by omega : k = 0 ∨ k = 1 ∨ k = 2) with rfl | rfl | rfl
        · cases an
          all_goals
            have e0 : wr.cell? ⟨q, 0, none⟩ = _ := (Lib.cell_of_heap CX.out 0).trans rfl
            go_wp2_with (first
              | (go_at_call 30; (with_reducible refine (line_oneN ANS _ _ (by simp) (by decide)).mono ?_); rintro e w6 ⟨rfl, hb⟩; have hb' := ((Below.refl _ wr).alloc (Nat.le_refl _) _).trans (hb.mono (by simp)); have CD := Aside0.mk (CC.out.step hb'); have CY := Aside0.mk ((hb'.block q qq.out).trans CX.out); clear hb hb' e0 CC CX qq)
              | (go_at_call 29; (with_reducible refine (bc_str (lineB [ANS]) CD.out (by rw [line1_size]; have : ANS.size ≤ 6 := (by decide); omega)).mono ?_); rintro e w7 ⟨rfl, h1, h2⟩; have CE := Aside0.mk h1; have CZ := Aside0.mk ((h2 q _ _ _ QB.out CY.out (by decide)).trans CY.out); clear h1 h2 CD CY))
            have nn := N1.out
            first
              | (rw [if_neg (by decide)] at nn; exact ⟨⟨1, rfl, by omega, by rw [nn]; omega, by rw [nn]; exact CC, CX⟩, by simp [intOf]⟩)
              | (rw [if_pos trivial] at nn; exact ⟨⟨1, rfl, by omega, by rw [nn, ByteArray.size_append, line1_size]; have : ANS.size ≤ 6 := (by decide); omega, by rw [nn]; exact CE, CZ⟩, by simp [intOf]⟩)
        · cases pu
          all_goals
            have e0 : wr.cell? ⟨q, 1, none⟩ = _ := (Lib.cell_of_heap CX.out 1).trans rfl
            go_wp2_with (first
              | (go_at_call 30; (with_reducible refine (line_oneN PSH _ _ (by simp) (by decide)).mono ?_); rintro e w6 ⟨rfl, hb⟩; have hb' := ((Below.refl _ wr).alloc (Nat.le_refl _) _).trans (hb.mono (by simp)); have CD := Aside0.mk (CC.out.step hb'); have CY := Aside0.mk ((hb'.block q qq.out).trans CX.out); clear hb hb' e0 CC CX qq)
              | (go_at_call 29; (with_reducible refine (bc_str (lineB [PSH]) CD.out (by rw [line1_size]; have : PSH.size ≤ 6 := (by decide); omega)).mono ?_); rintro e w7 ⟨rfl, h1, h2⟩; have CE := Aside0.mk h1; have CZ := Aside0.mk ((h2 q _ _ _ QB.out CY.out (by decide)).trans CY.out); clear h1 h2 CD CY))
            have nn := N2.out
            first
              | (rw [if_neg (by decide)] at nn; exact ⟨⟨2, rfl, by omega, by rw [nn]; omega, by rw [nn]; exact CC, CX⟩, by simp [intOf]⟩)
              | (rw [if_pos trivial] at nn; exact ⟨⟨2, rfl, by omega, by rw [nn, ByteArray.size_append, line1_size]; have : PSH.size ≤ 6 := (by decide); omega, by rw [nn]; exact CE, CZ⟩, by simp [intOf]⟩)
        · cases pl
          all_goals
            have e0 : wr.cell? ⟨q, 2, none⟩ = _ := (Lib.cell_of_heap CX.out 2).trans rfl
            go_wp2_with (first
              | (go_at_call 30; (with_reducible refine (line_oneN PLL _ _ (by simp) (by decide)).mono ?_); rintro e w6 ⟨rfl, hb⟩; have hb' := ((Below.refl _ wr).alloc (Nat.le_refl _) _).trans (hb.mono (by simp)); have CD := Aside0.mk (CC.out.step hb'); have CY := Aside0.mk ((hb'.block q qq.out).trans CX.out); clear hb hb' e0 CC CX qq)
              | (go_at_call 29; (with_reducible refine (bc_str (lineB [PLL]) CD.out (by rw [line1_size]; have : PLL.size ≤ 6 := (by decide); omega)).mono ?_); rintro e w7 ⟨rfl, h1, h2⟩; have CE := Aside0.mk h1; have CZ := Aside0.mk ((h2 q _ _ _ QB.out CY.out (by decide)).trans CY.out); clear h1 h2 CD CY))
            have nn := N3.out
            first
              | (rw [if_neg (by decide)] at nn; exact ⟨⟨3, rfl, by omega, by rw [nn]; omega, by rw [nn]; exact CC, CX⟩, by simp [intOf]⟩)
              | (rw [if_pos trivial] at nn; exact ⟨⟨3, rfl, by omega, by rw [nn, ByteArray.size_append, line1_size]; have : PLL.size ≤ 6 := (by decide); omega, by rw [nn]; exact CE, CZ⟩, by simp [intOf]⟩)
      · obtain rfl : k = 3 := by omega
        have CC : Aside0 (BC w b b m msg (catL (headL rd an pu pl)) wr) := CC
        have sz : (catL (headL rd an pu pl)).size ≤ 90 := sz
        have d6 := CC.out.cell 6
        rw [HM.out] at d6
        clear CX
        have iln : ig.length ≤ 40 := FT.out.ig0
        rw [show ((3 : Nat) : Int) = 3 from rfl]
        go_wp2
        clear d6
        obtain ⟨wo, rfl⟩ : ∃ wo : World, wo = wr := ⟨_, rfl⟩
        go_loopw [47] (fun v wr => ∃ k : Nat, v = .int .i64 (k : Int) ∧ k ≤ ig.length ∧ (catL (headL rd an pu pl ++ (ig.take k).map fun x => lineB [IGT, x])).size ≤ 90 + 50 * k ∧ Aside0 (BC w b b m msg (catL (headL rd an pu pl ++ (ig.take k).map fun x => lineB [IGT, x])) wr)) (fun v _ => ig.length - (intOf v).toNat)
        case atStart => exact ⟨0, rfl, by omega, by simpa using sz, by simpa using CC⟩
        case round =>
          clear CC sz
          obtain ⟨k, rfl, hk, sz, CC⟩ := hrel
          by_cases hlt : k < ig.length
          · obtain ⟨ad, hA, hc⟩ := str_at (Kd.C_below R6.out CC.out.below) k hlt
            subst hA
            have ex : ig.getD k ⟨#[]⟩ ∈ ig := by rw [List.getD_eq_getElem?_getD, List.getElem?_eq_getElem hlt]; exact List.getElem_mem hlt
            have xs40 := FT.out.ig1 _ ex
            have htk : (ig.take (k + 1)).map (fun x => lineB [IGT, x]) = (ig.take k).map (fun x => lineB [IGT, x]) ++ [lineB [IGT, ig.getD k ⟨#[]⟩]] := by
              rw [List.take_succ_eq_append_getElem hlt, List.map_append, List.getD_eq_getElem?_getD, List.getElem?_eq_getElem hlt]
              rfl
            have HT := Aside0.mk htk
            clear htk ex
            generalize ig.getD k ⟨#[]⟩ = x at hc xs40 HT
            go_wp2_with (first
              | (go_at_call 30; (with_reducible refine (line_two IGT x _ (by have : IGT.size = 4 := rfl; omega)).mono ?_); rintro e w6 ⟨rfl, hb⟩; have CD := Aside0.mk (CC.out.step hb); clear hb CC hc)
              | (go_at_call 29; (with_reducible refine (bc_str (lineB [IGT, x]) CD.out (by rw [line2_size]; have : IGT.size = 4 := rfl; omega)).mono ?_); rintro e w7 ⟨rfl, h1, h2⟩; have CE := Aside0.mk h1; clear h1 h2 CD))
            go_roundw
            case rel => exact ⟨k + 1, by go_num, by omega, by rw [HT.out, ← List.append_assoc, catL_snoc, ByteArray.size_append, line2_size]; have : IGT.size = 4 := rfl; omega, by rw [HT.out, ← List.append_assoc, catL_snoc]; exact CE⟩
            case measure => simp [intOf] <;> omega
          · obtain rfl : k = ig.length := by omega
            rw [List.take_length] at CC sz
            have d7 := CC.out.cell 7
            rw [HM.out] at d7
            have gln : gi.length ≤ 40 := FT.out.gi0
            go_wp2
            clear d7
            obtain ⟨wo, rfl⟩ : ∃ wo : World, wo = wr := ⟨_, rfl⟩
            generalize hL1 : headL rd an pu pl ++ ig.map (fun x => lineB [IGT, x]) = L1 at sz CC
            have HL1 := Aside0.mk hL1
            have sz : (catL L1).size ≤ 3000 := by omega
            clear hL1 iln
            go_loopw [59] (fun v wr => ∃ k : Nat, v = .int .i64 (k : Int) ∧ k ≤ gi.length ∧ (catL (L1 ++ (gi.take k).map fun x => lineB [GIM, x])).size ≤ 3000 + 50 * k ∧ Aside0 (BC w b b m msg (catL (L1 ++ (gi.take k).map fun x => lineB [GIM, x])) wr)) (fun v _ => gi.length - (intOf v).toNat)
            case atStart => exact ⟨0, rfl, by omega, by simpa using sz, by simpa using CC⟩
            case round =>
              clear CC sz
              obtain ⟨k, rfl, hk, sz, CC⟩ := hrel
              by_cases hlt : k < gi.length
              · obtain ⟨ad, hA, hc⟩ := str_at (Kd.C_below R7.out CC.out.below) k hlt
                subst hA
                have ex : gi.getD k ⟨#[]⟩ ∈ gi := by rw [List.getD_eq_getElem?_getD, List.getElem?_eq_getElem hlt]; exact List.getElem_mem hlt
                have xs40 := FT.out.gi1 _ ex
                have htk : (gi.take (k + 1)).map (fun x => lineB [GIM, x]) = (gi.take k).map (fun x => lineB [GIM, x]) ++ [lineB [GIM, gi.getD k ⟨#[]⟩]] := by
                  rw [List.take_succ_eq_append_getElem hlt, List.map_append, List.getD_eq_getElem?_getD, List.getElem?_eq_getElem hlt]
                  rfl
                have HT := Aside0.mk htk
                clear htk ex
                generalize gi.getD k ⟨#[]⟩ = x at hc xs40 HT
                go_wp2_with (first
                  | (go_at_call 30; (with_reducible refine (line_two GIM x _ (by have : GIM.size = 5 := rfl; omega)).mono ?_); rintro e w6 ⟨rfl, hb⟩; have CD := Aside0.mk (CC.out.step hb); clear hb CC hc)
                  | (go_at_call 29; (with_reducible refine (bc_str (lineB [GIM, x]) CD.out (by rw [line2_size]; have : GIM.size = 5 := rfl; omega)).mono ?_); rintro e w7 ⟨rfl, h1, h2⟩; have CE := Aside0.mk h1; clear h1 h2 CD))
                go_roundw
                case rel => exact ⟨k + 1, by go_num, by omega, by rw [HT.out, ← List.append_assoc, catL_snoc, ByteArray.size_append, line2_size]; have : GIM.size = 5 := rfl; omega, by rw [HT.out, ← List.append_assoc, catL_snoc]; exact CE⟩
                case measure => simp [intOf] <;> omega
              · obtain rfl : k = gi.length := by omega
                rw [List.take_length] at CC sz
                have d8 := CC.out.cell 8
                rw [HM.out] at d8
                have fln : fs.length ≤ 3 := FT.out.fs0
                go_wp2
                clear d8
                obtain ⟨wo, rfl⟩ : ∃ wo : World, wo = wr := ⟨_, rfl⟩
                generalize hL2 : L1 ++ gi.map (fun x => lineB [GIM, x]) = L2 at sz CC
                have HL2 := Aside0.mk hL2
                have sz : (catL L2).size ≤ 6000 := by omega
                clear hL2 gln
                go_loopw [71] (fun v wr => ∃ k : Nat, v = .int .i64 (k : Int) ∧ k ≤ fs.length ∧ (catL (L2 ++ filesL (fs.take k))).size ≤ 6000 + 1000 * k ∧ Aside0 (BC w b b m msg (catL (L2 ++ filesL (fs.take k))) wr)) (fun v _ => fs.length - (intOf v).toNat)
                case atStart => exact ⟨0, rfl, by omega, by simpa [filesL] using sz, by simpa [filesL] using CC⟩
                case round =>
                  clear CC sz
                  obtain ⟨k, rfl, hk, sz, CC⟩ := hrel
                  by_cases hlt : k < fs.length
                  · obtain ⟨ad, hA, g0, g1, g2, g3⟩ := at_T46 (Kd.C_below R8.out CC.out.below) (k : Int) (by omega) (by omega)
                    subst hA
                    rw [rdt_nat, Int.toNat_natCast] at g0 g1 g2 g3
                    have ex : fs.getD k z46 ∈ fs := by rw [List.getD_eq_getElem?_getD, List.getElem?_eq_getElem hlt]; exact List.getElem_mem hlt
                    have ft := FT.out.fs1 _ ex
                    have htk : filesL (fs.take (k + 1)) = filesL (fs.take k) ++ [lineB (fileW (fs.getD k z46)), (fs.getD k z46).f3 ++ ⟨#[10]⟩] := by
                      rw [List.take_succ_eq_append_getElem hlt, List.getD_eq_getElem?_getD, List.getElem?_eq_getElem hlt]
                      unfold filesL
                      rw [List.flatMap_append]
                      rfl
                    have HT := Aside0.mk htk
                    clear htk ex
                    generalize fs.getD k z46 = f at g0 g1 g2 g3 ft HT
                    obtain ⟨f0, f1, f2, f3⟩ := f
                    obtain ⟨t0, t1, t2, t3, t4⟩ := ft
                    dsimp only at g0 g1 g2 g3 t0 t1 t2 t3 t4
                    obtain ⟨h, hh⟩ : ∃ h, wr.heap.size = h := ⟨_, rfl⟩
                    have CF := Aside0.mk (CC.out.step ((Below.refl _ wr).alloc (Nat.le_refl _) (.cells #[.int .i64 f0, .string f1, .string f2, .string f3] 46)))
                    have XF := Aside0.mk (World.alloc_heap_new wr (.cells #[.int .i64 f0, .string f1, .string f2, .string f3] 46))
                    rcases (by omega : f0 = 1 ∨ f0 = 2 ∨ f0 = 3) with rfl | rfl | rfl
                    · rw [hh] at XF
                      have hw0 : fileW ⟨1, f1, f2, f3⟩ = [⟨#[102, 105, 108, 101]⟩, f1, decT (f3.size : Int)] := rfl
                      rw [hw0] at HT
                      clear CC hw0
                      go_wp2
                      clear hh g0 g1 g2 g3
                      generalize wr.alloc (.cells #[.int .i64 1, .string f1, .string f2, .string f3] 46) = wf at CF XF ⊢
                      have e0 : wf.cell? ⟨h, 0, none⟩ = some (.int .i64 1) := (Lib.cell_of_heap XF.out 0).trans rfl
                      have e1 : wf.cell? ⟨h, 1, none⟩ = some (.string f1) := (Lib.cell_of_heap XF.out 1).trans rfl
                      have hl := (Array.getElem?_eq_some_iff.1 XF.out).1
                      have hhb : Aside0 (h ≠ b) := ⟨by rintro rfl; have := CF.out.bd; rcases this with ⟨_, _, hx, _⟩ | ⟨_, _, hx, _⟩ <;> (rw [XF.out] at hx; cases hx)⟩
                      go_cut [12, 71] from 71 to 104 (fun s12 s71 wx => ∃ g : Nat, s12 = .slice (some ⟨g, 0, none⟩) 2 2 ∧ s71 = .int .i64 (k : Int) ∧ Aside0 (wx.ownsRow wf.heap.size 9 1 (.slice (some ⟨g, 0, none⟩) 2 2) 2 [.string ⟨#[102, 105, 108, 101]⟩, .string f1]) ∧ Aside0 (Below wf.heap.size wf wx))
                      case first =>
                        go_region_with ((go_at_call 32; refine (kinds_call _).mono ?_; rintro e w6 ⟨rfl, rfl⟩))
                        all_goals (go_wp2_with fail; go_meet; exact ⟨_, rfl, rfl, ⟨fin_own _ _ _ _⟩, ⟨fin_below _ _ _ _⟩⟩)
                      case rest =>
                        obtain ⟨g, rfl, rfl, HO, HX⟩ := hcut
                        have XG := Aside0.mk ((HX.out.block h hl).trans XF.out)
                        clear e0 e1
                        have e0 : wc.cell? ⟨h, 0, none⟩ = some (.int .i64 1) := (Lib.cell_of_heap XG.out 0).trans rfl
                        have e2 : wc.cell? ⟨h, 2, none⟩ = some (.string f2) := (Lib.cell_of_heap XG.out 2).trans rfl
                        have e3 : wc.cell? ⟨h, 3, none⟩ = some (.string f3) := (Lib.cell_of_heap XG.out 3).trans rfl
                        go_wp2_with (first
                          | (go_at_call 31; (with_reducible refine (decT_call (f3.size : Int) _).mono ?_); rintro e w6 ⟨rfl, hb⟩; have HX6 := Aside0.mk (HX.out.trans (hb.mono HX.out.size)); have HO6 := Aside0.mk (pw_own_below HO.out hb); clear hb)
                          | (at_builtin; refine print_append (w0 := wf) wf.heap.size rfl (.tmp 91) (.tmp 96) 24 9 (.string ⟨#[]⟩) 16 rfl Try.underlying24 info9 rfl (by decide) _ _ _ rfl rfl rfl HO6.out HX6.out HX6.out.size (by simp) ?_; intro v1 w7 HO7 HX7 hg hat; simp only [List.length_append, List.length_cons, List.length_nil, List.cons_append, List.nil_append, Nat.zero_add, Nat.reduceAdd] at HO7; obtain ⟨g2, cap2, rfl, hbg, hlg⟩ := HO7.form (by omega); have HL := Aside0.mk (line_ownN g2 cap2 3 [⟨#[102, 105, 108, 101]⟩, f1, decT (f3.size : Int)] w7 rfl HO7 (by omega) (by omega) (by rw [line3_size]; have := decT_size (f3.size : Int); have : (⟨#[102, 105, 108, 101]⟩ : ByteArray).size = 4 := rfl; omega)); have HX := Aside0.mk HX7; clear HO7 HX7 hg hat hbg hlg HO6 HX6)
                          | (go_at_call 30; (with_reducible refine HL.out.mono ?_); rintro e w8 ⟨rfl, hb⟩; have HX8 := Aside0.mk (HX.out.trans (hb.mono HX.out.size)); have CG := Aside0.mk (CF.out.step HX8.out); have XG := Aside0.mk ((HX8.out.block h hl).trans XF.out); clear hb HL)
                          | (go_at_call 29; (with_reducible refine (bc_str (lineB [⟨#[102, 105, 108, 101]⟩, f1, decT (f3.size : Int)]) CG.out (by rw [line3_size]; have := decT_size (f3.size : Int); have : (⟨#[102, 105, 108, 101]⟩ : ByteArray).size = 4 := rfl; omega)).mono ?_); rintro e w9 ⟨rfl, h1, h2⟩; have CH := Aside0.mk h1; have XH := Aside0.mk ((h2 h _ _ _ hhb.out XG.out (by decide)).trans XG.out); have e9 : w9.cell? ⟨h, 3, none⟩ = some (.string f3) := (Lib.cell_of_heap XH.out 3).trans rfl; clear h1 h2 CG)
                          | (go_at_call 29; (with_reducible refine (bc_str (f3 ++ ⟨#[10]⟩) CH.out (by rw [ByteArray.size_append, ByteArray.size_append, line3_size]; have := decT_size (f3.size : Int); have : (⟨#[102, 105, 108, 101]⟩ : ByteArray).size = 4 := rfl; have : (⟨#[10]⟩ : ByteArray).size = 1 := rfl; omega)).mono ?_); rintro e w10 ⟨rfl, h1, h2⟩; have CI := Aside0.mk h1; clear h1 h2 CH))
                        go_roundw
                        case rel => exact ⟨k + 1, by go_num, by omega, by rw [HT.out, ← List.append_assoc, catL_two, ByteArray.size_append, ByteArray.size_append, ByteArray.size_append, line3_size]; have := decT_size (f3.size : Int); have : (⟨#[102, 105, 108, 101]⟩ : ByteArray).size = 4 := rfl; have : (⟨#[10]⟩ : ByteArray).size = 1 := rfl; omega, by rw [HT.out, ← List.append_assoc, catL_two]; exact CI⟩
                        case measure => simp [intOf] <;> omega
                    · rw [hh] at XF
                      have hw0 : fileW ⟨2, f1, f2, f3⟩ = [⟨#[100, 101, 108, 116, 97]⟩, f1, f2, decT (f3.size : Int)] := rfl
                      rw [hw0] at HT
                      clear CC hw0
                      go_wp2
                      clear hh g0 g1 g2 g3
                      generalize wr.alloc (.cells #[.int .i64 2, .string f1, .string f2, .string f3] 46) = wf at CF XF ⊢
                      have e0 : wf.cell? ⟨h, 0, none⟩ = some (.int .i64 2) := (Lib.cell_of_heap XF.out 0).trans rfl
                      have e1 : wf.cell? ⟨h, 1, none⟩ = some (.string f1) := (Lib.cell_of_heap XF.out 1).trans rfl
                      have hl := (Array.getElem?_eq_some_iff.1 XF.out).1
                      have hhb : Aside0 (h ≠ b) := ⟨by rintro rfl; have := CF.out.bd; rcases this with ⟨_, _, hx, _⟩ | ⟨_, _, hx, _⟩ <;> (rw [XF.out] at hx; cases hx)⟩
                      go_cut [12, 71] from 71 to 104 (fun s12 s71 wx => ∃ g : Nat, s12 = .slice (some ⟨g, 0, none⟩) 2 2 ∧ s71 = .int .i64 (k : Int) ∧ Aside0 (wx.ownsRow wf.heap.size 9 1 (.slice (some ⟨g, 0, none⟩) 2 2) 2 [.string ⟨#[100, 101, 108, 116, 97]⟩, .string f1]) ∧ Aside0 (Below wf.heap.size wf wx))
                      case first =>
                        go_region_with ((go_at_call 32; refine (kinds_call _).mono ?_; rintro e w6 ⟨rfl, rfl⟩))
                        all_goals (go_wp2_with fail; go_meet; exact ⟨_, rfl, rfl, ⟨fin_own _ _ _ _⟩, ⟨fin_below _ _ _ _⟩⟩)
                      case rest =>
                        obtain ⟨g, rfl, rfl, HO, HX⟩ := hcut
                        have XG := Aside0.mk ((HX.out.block h hl).trans XF.out)
                        clear e0 e1
                        have e0 : wc.cell? ⟨h, 0, none⟩ = some (.int .i64 2) := (Lib.cell_of_heap XG.out 0).trans rfl
                        have e2 : wc.cell? ⟨h, 2, none⟩ = some (.string f2) := (Lib.cell_of_heap XG.out 2).trans rfl
                        have e3 : wc.cell? ⟨h, 3, none⟩ = some (.string f3) := (Lib.cell_of_heap XG.out 3).trans rfl
                        go_wp2_with (first
                          | (at_builtin; refine print_append (w0 := wf) wf.heap.size rfl (.tmp 86) (.tmp 89) 24 9 (.string ⟨#[]⟩) 16 rfl Try.underlying24 info9 rfl (by decide) _ _ _ rfl rfl rfl HO.out HX.out HX.out.size (by simp) ?_; intro v1 w7 HO7 HX7 hg hat; simp only [List.length_append, List.length_cons, List.length_nil, List.cons_append, List.nil_append, Nat.zero_add, Nat.reduceAdd] at HO7; obtain ⟨g2, cap2, rfl, hbg, hlg⟩ := HO7.form (by omega); have XG := Aside0.mk ((HX7.block h hl).trans XF.out); clear e0 e2 e3; have e0 : w7.cell? ⟨h, 0, none⟩ = some (.int .i64 2) := (Lib.cell_of_heap XG.out 0).trans rfl; have e3 : w7.cell? ⟨h, 3, none⟩ = some (.string f3) := (Lib.cell_of_heap XG.out 3).trans rfl; have HO := Aside0.mk HO7; have HX := Aside0.mk HX7; clear HO7 HX7 hg hat hbg hlg)
                          | (go_at_call 31; (with_reducible refine (decT_call (f3.size : Int) _).mono ?_); rintro e w6 ⟨rfl, hb⟩; have HX6 := Aside0.mk (HX.out.trans (hb.mono HX.out.size)); have HO6 := Aside0.mk (pw_own_below HO.out hb); clear hb)
                          | (at_builtin; refine print_append (w0 := wf) wf.heap.size rfl (.tmp 91) (.tmp 96) 24 9 (.string ⟨#[]⟩) 16 rfl Try.underlying24 info9 rfl (by decide) _ _ _ rfl rfl rfl HO6.out HX6.out HX6.out.size (by simp) ?_; intro v1 w7 HO7 HX7 hg hat; simp only [List.length_append, List.length_cons, List.length_nil, List.cons_append, List.nil_append, Nat.zero_add, Nat.reduceAdd] at HO7; obtain ⟨g2, cap2, rfl, hbg, hlg⟩ := HO7.form (by omega); have HL := Aside0.mk (line_ownN g2 cap2 4 [⟨#[100, 101, 108, 116, 97]⟩, f1, f2, decT (f3.size : Int)] w7 rfl HO7 (by omega) (by omega) (by rw [line4_size]; have := decT_size (f3.size : Int); have : (⟨#[100, 101, 108, 116, 97]⟩ : ByteArray).size = 5 := rfl; omega)); have HX := Aside0.mk HX7; clear HO7 HX7 hg hat hbg hlg HO6 HX6)
                          | (go_at_call 30; (with_reducible refine HL.out.mono ?_); rintro e w8 ⟨rfl, hb⟩; have HX8 := Aside0.mk (HX.out.trans (hb.mono HX.out.size)); have CG := Aside0.mk (CF.out.step HX8.out); have XG := Aside0.mk ((HX8.out.block h hl).trans XF.out); clear hb HL)
                          | (go_at_call 29; (with_reducible refine (bc_str (lineB [⟨#[100, 101, 108, 116, 97]⟩, f1, f2, decT (f3.size : Int)]) CG.out (by rw [line4_size]; have := decT_size (f3.size : Int); have : (⟨#[100, 101, 108, 116, 97]⟩ : ByteArray).size = 5 := rfl; omega)).mono ?_); rintro e w9 ⟨rfl, h1, h2⟩; have CH := Aside0.mk h1; have XH := Aside0.mk ((h2 h _ _ _ hhb.out XG.out (by decide)).trans XG.out); have e9 : w9.cell? ⟨h, 3, none⟩ = some (.string f3) := (Lib.cell_of_heap XH.out 3).trans rfl; clear h1 h2 CG)
                          | (go_at_call 29; (with_reducible refine (bc_str (f3 ++ ⟨#[10]⟩) CH.out (by rw [ByteArray.size_append, ByteArray.size_append, line4_size]; have := decT_size (f3.size : Int); have : (⟨#[100, 101, 108, 116, 97]⟩ : ByteArray).size = 5 := rfl; have : (⟨#[10]⟩ : ByteArray).size = 1 := rfl; omega)).mono ?_); rintro e w10 ⟨rfl, h1, h2⟩; have CI := Aside0.mk h1; clear h1 h2 CH))
                        go_roundw
                        case rel => exact ⟨k + 1, by go_num, by omega, by rw [HT.out, ← List.append_assoc, catL_two, ByteArray.size_append, ByteArray.size_append, ByteArray.size_append, line4_size]; have := decT_size (f3.size : Int); have : (⟨#[100, 101, 108, 116, 97]⟩ : ByteArray).size = 5 := rfl; have : (⟨#[10]⟩ : ByteArray).size = 1 := rfl; omega, by rw [HT.out, ← List.append_assoc, catL_two]; exact CI⟩
                        case measure => simp [intOf] <;> omega
                    · rw [hh] at XF
                      have hw0 : fileW ⟨3, f1, f2, f3⟩ = [⟨#[112, 114, 101, 115, 115]⟩, f1, decT (f3.size : Int)] := rfl
                      rw [hw0] at HT
                      clear CC hw0
                      go_wp2
                      clear hh g0 g1 g2 g3
                      generalize wr.alloc (.cells #[.int .i64 3, .string f1, .string f2, .string f3] 46) = wf at CF XF ⊢
                      have e0 : wf.cell? ⟨h, 0, none⟩ = some (.int .i64 3) := (Lib.cell_of_heap XF.out 0).trans rfl
                      have e1 : wf.cell? ⟨h, 1, none⟩ = some (.string f1) := (Lib.cell_of_heap XF.out 1).trans rfl
                      have hl := (Array.getElem?_eq_some_iff.1 XF.out).1
                      have hhb : Aside0 (h ≠ b) := ⟨by rintro rfl; have := CF.out.bd; rcases this with ⟨_, _, hx, _⟩ | ⟨_, _, hx, _⟩ <;> (rw [XF.out] at hx; cases hx)⟩
                      go_cut [12, 71] from 71 to 104 (fun s12 s71 wx => ∃ g : Nat, s12 = .slice (some ⟨g, 0, none⟩) 2 2 ∧ s71 = .int .i64 (k : Int) ∧ Aside0 (wx.ownsRow wf.heap.size 9 1 (.slice (some ⟨g, 0, none⟩) 2 2) 2 [.string ⟨#[112, 114, 101, 115, 115]⟩, .string f1]) ∧ Aside0 (Below wf.heap.size wf wx))
                      case first =>
                        go_region_with ((go_at_call 32; refine (kinds_call _).mono ?_; rintro e w6 ⟨rfl, rfl⟩))
                        all_goals (go_wp2_with fail; go_meet; exact ⟨_, rfl, rfl, ⟨fin_own _ _ _ _⟩, ⟨fin_below _ _ _ _⟩⟩)
                      case rest =>
                        obtain ⟨g, rfl, rfl, HO, HX⟩ := hcut
                        have XG := Aside0.mk ((HX.out.block h hl).trans XF.out)
                        clear e0 e1
                        have e0 : wc.cell? ⟨h, 0, none⟩ = some (.int .i64 3) := (Lib.cell_of_heap XG.out 0).trans rfl
                        have e2 : wc.cell? ⟨h, 2, none⟩ = some (.string f2) := (Lib.cell_of_heap XG.out 2).trans rfl
                        have e3 : wc.cell? ⟨h, 3, none⟩ = some (.string f3) := (Lib.cell_of_heap XG.out 3).trans rfl
                        go_wp2_with (first
                          | (go_at_call 31; (with_reducible refine (decT_call (f3.size : Int) _).mono ?_); rintro e w6 ⟨rfl, hb⟩; have HX6 := Aside0.mk (HX.out.trans (hb.mono HX.out.size)); have HO6 := Aside0.mk (pw_own_below HO.out hb); clear hb)
                          | (at_builtin; refine print_append (w0 := wf) wf.heap.size rfl (.tmp 91) (.tmp 96) 24 9 (.string ⟨#[]⟩) 16 rfl Try.underlying24 info9 rfl (by decide) _ _ _ rfl rfl rfl HO6.out HX6.out HX6.out.size (by simp) ?_; intro v1 w7 HO7 HX7 hg hat; simp only [List.length_append, List.length_cons, List.length_nil, List.cons_append, List.nil_append, Nat.zero_add, Nat.reduceAdd] at HO7; obtain ⟨g2, cap2, rfl, hbg, hlg⟩ := HO7.form (by omega); have HL := Aside0.mk (line_ownN g2 cap2 3 [⟨#[112, 114, 101, 115, 115]⟩, f1, decT (f3.size : Int)] w7 rfl HO7 (by omega) (by omega) (by rw [line3_size]; have := decT_size (f3.size : Int); have : (⟨#[112, 114, 101, 115, 115]⟩ : ByteArray).size = 5 := rfl; omega)); have HX := Aside0.mk HX7; clear HO7 HX7 hg hat hbg hlg HO6 HX6)
                          | (go_at_call 30; (with_reducible refine HL.out.mono ?_); rintro e w8 ⟨rfl, hb⟩; have HX8 := Aside0.mk (HX.out.trans (hb.mono HX.out.size)); have CG := Aside0.mk (CF.out.step HX8.out); have XG := Aside0.mk ((HX8.out.block h hl).trans XF.out); clear hb HL)
                          | (go_at_call 29; (with_reducible refine (bc_str (lineB [⟨#[112, 114, 101, 115, 115]⟩, f1, decT (f3.size : Int)]) CG.out (by rw [line3_size]; have := decT_size (f3.size : Int); have : (⟨#[112, 114, 101, 115, 115]⟩ : ByteArray).size = 5 := rfl; omega)).mono ?_); rintro e w9 ⟨rfl, h1, h2⟩; have CH := Aside0.mk h1; have XH := Aside0.mk ((h2 h _ _ _ hhb.out XG.out (by decide)).trans XG.out); have e9 : w9.cell? ⟨h, 3, none⟩ = some (.string f3) := (Lib.cell_of_heap XH.out 3).trans rfl; clear h1 h2 CG)
                          | (go_at_call 29; (with_reducible refine (bc_str (f3 ++ ⟨#[10]⟩) CH.out (by rw [ByteArray.size_append, ByteArray.size_append, line3_size]; have := decT_size (f3.size : Int); have : (⟨#[112, 114, 101, 115, 115]⟩ : ByteArray).size = 5 := rfl; have : (⟨#[10]⟩ : ByteArray).size = 1 := rfl; omega)).mono ?_); rintro e w10 ⟨rfl, h1, h2⟩; have CI := Aside0.mk h1; clear h1 h2 CH))
                        go_roundw
                        case rel => exact ⟨k + 1, by go_num, by omega, by rw [HT.out, ← List.append_assoc, catL_two, ByteArray.size_append, ByteArray.size_append, ByteArray.size_append, line3_size]; have := decT_size (f3.size : Int); have : (⟨#[112, 114, 101, 115, 115]⟩ : ByteArray).size = 5 := rfl; have : (⟨#[10]⟩ : ByteArray).size = 1 := rfl; omega, by rw [HT.out, ← List.append_assoc, catL_two]; exact CI⟩
                        case measure => simp [intOf] <;> omega
                  · obtain rfl : k = fs.length := by omega
                    rw [List.take_length] at CC sz
                    have d9 := CC.out.cell 9
                    rw [HM.out] at d9
                    have hfin : L2 ++ filesL fs = headL rd an pu pl ++ ig.map (fun x => lineB [IGT, x]) ++ gi.map (fun x => lineB [GIM, x]) ++ filesL fs := by rw [← HL2.out, ← HL1.out]
                    rw [hfin] at CC sz
                    have sz : (catL (headL rd an pu pl ++ ig.map (fun x => lineB [IGT, x]) ++ gi.map (fun x => lineB [GIM, x]) ++ filesL fs)).size ≤ 9000 := by omega
                    obtain ⟨L3, hL3⟩ : ∃ L3, headL rd an pu pl ++ ig.map (fun x => lineB [IGT, x]) ++ gi.map (fun x => lineB [GIM, x]) ++ filesL fs = L3 := ⟨_, rfl⟩
                    have HB3 : Aside0 (bodyB rd an pu pl ig gi fs er = catL (L3 ++ (if er = 0 then [] else [lineB [ERR, decT er]]))) := ⟨by rw [← hL3]; rfl⟩
                    rw [hL3] at CC sz
                    clear hfin hL3
                    by_cases he : er = 0
                    · have HB4 : Aside0 (bodyB rd an pu pl ig gi fs er = catL L3) := ⟨by rw [HB3.out, if_pos he, List.append_nil]⟩
                      subst he
                      go_wp2_with (go_at_call 33; (with_reducible refine (bc_text CC.out).mono ?_); rintro e w11 ⟨rfl, h1⟩; have HE := Aside0.mk h1; clear h1)
                      go_ret
                      rw [HB4.out]
                      exact ⟨rfl, HE.out⟩
                    · go_wp2_with (first
                        | (go_at_call 31; (with_reducible refine (decT_call er _).mono ?_); rintro e w12 ⟨rfl, hb⟩; have CJ := Aside0.mk (CC.out.step hb); clear hb CC d9)
                        | (go_at_call 30; (with_reducible refine (line_two ERR (decT er) _ (by have := decT_size er; have : ERR.size = 5 := rfl; omega)).mono ?_); rintro e w13 ⟨rfl, hb⟩; have CK := Aside0.mk (CJ.out.step hb); clear hb CJ)
                        | (go_at_call 29; (with_reducible refine (bc_str (lineB [ERR, decT er]) CK.out (by rw [line2_size]; have := decT_size er; have : ERR.size = 5 := rfl; omega)).mono ?_); rintro e w14 ⟨rfl, h1, h2⟩; have CM := Aside0.mk h1; clear h1 h2 CK)
                        | (go_at_call 33; (with_reducible refine (bc_text CM.out).mono ?_); rintro e w11 ⟨rfl, h1⟩; have HE := Aside0.mk h1; clear h1))
                      go_ret
                      rw [HB3.out, if_neg he, catL_snoc]
                      exact ⟨rfl, HE.out⟩
end Go.Proofs.Ytldbhkhblkgnnaa.Given
