/- The walk of the reference's Sum: what hash.Sum answers. -/
import Derived.Test.YtcjkichimndioabHs5
import Derived.Test.YtcjkichimndioabHs6
set_option linter.unusedSimpArgs false
set_option linter.unusedVariables false
namespace Go.Proofs.Ytcjkichimndioab.Given
open Go.RowKit Go.Proofs.YtcjkichimndioabW.PrintWords
theorem Rw.shape {W : World} {B : Nat} {v : Value} {xs : List Int} (h : Rw W B v xs) : ∃ g c, v = .slice (some ⟨g, 0, none⟩) xs.length c := by
  obtain ⟨g, c, _, _, rfl, _⟩ := h
  exact ⟨g, c, rfl⟩
section
variable {P : Program} {ops : Array Oper} {rest : List Oper} {o : Oper} {a : Act} {Q : Exit → Act → World → Prop}
theorem conv_bytes {w0 W : World} (B : Nat) (hgd : o.guard = none) (src dst : TypeId) (x : Operand) (ho : o.op = .convert src dst x) (s : ByteArray) (hx : a.eval x = .string s) (hs : P.underlying src = some .string) (hd : P.underlying dst = some (.slice 5)) (he : P.underlying 5 = some (.int .u8))
    (HB : Below B w0 W) (hBs : B ≤ W.heap.size) (hlen : s.size ≤ 2000000)
    (h : ∀ v1 w1, Rw w1 B v1 (sbytes s) → Below B w0 w1 → B ≤ w1.heap.size → wpList P ops Q rest (a.put o.dst v1) w1) : wpList P ops Q (o :: rest) a W := by
  refine Kd.event_run hgd (v := .slice (some ⟨W.heap.size, 0, none⟩) s.size (grownCap W s.size 0 5)) (w1 := Lib.bytesWorld W 5 s) ?_ (h _ _ (Rw.bytes W B hBs s hlen) (below_bytes HB hBs s) (by rw [Lib.bytesWorld_size]; omega))
  have hrun := Lib.run_convert_string_bytes (P := P) W src dst 5 s hs hd he
  simp [execOp, ho, hx, hrun, Result.andThen]
end
theorem row_keep {w : World} {g p : Nat} (hne : g ≠ p) (cs : Array Value) : (w.setRow p cs).heap[g]? = w.heap[g]? := by
  unfold World.setRow
  rw [Array.getElem?_modify, if_neg (fun e => hne e.symm)]
theorem World.size_setRow (w : World) (p : Nat) (cs : Array Value) : (w.setRow p cs).heap.size = w.heap.size := by simp [World.setRow]
theorem padN_lt (n : Nat) : padN n ≤ n + 72 := by unfold padN; omega
theorem lbs_take (n j : Nat) (hj : j < 8) : (lbs n 8).take (j + 1) = (lbs n 8).take j ++ [lb n (7 - j)] := by
  have h : j = 0 ∨ j = 1 ∨ j = 2 ∨ j = 3 ∨ j = 4 ∨ j = 5 ∨ j = 6 ∨ j = 7 := by omega
  rcases h with rfl | rfl | rfl | rfl | rfl | rfl | rfl | rfl
  all_goals rfl
theorem padK_eq (s : ByteArray) (N n0 : Nat) (hn : n0 = s.size) (hN : N = padN s.size - 8) : ((sbytes s ++ [128]) ++ List.replicate (N - (n0 + 1)) 0) ++ lbs s.size 8 = padK (sbytes s) 8 := by
  unfold padK
  rw [sbytes_len, hn, hN, show padN s.size - s.size - 1 - 8 = padN s.size - 8 - (s.size + 1) by omega]
  simp
theorem str_app (l : List Int) (d : Int) : strOfNums l ++ strOfNums [d] = strOfNums (l ++ [d]) := by
  unfold strOfNums
  apply ByteArray.ext
  simp [ByteArray.data_append]
set_option maxHeartbeats 4000000 in
set_option maxRecDepth 100000 in
theorem rsum_calls (s : ByteArray) (w : World) (hs : s.size ≤ 1000000) : Calls Try.prog 15 #[.string s] w fun e w' => e = .returned (.string (sumB s)) ∧ Below w.heap.size w w' := by
  obtain ⟨S5, hS5⟩ : ∃ S5, S5 = sumB s := ⟨_, rfl⟩
  rw [← hS5]
  have HS5 := Aside0.mk hS5
  clear hS5
  have HS := Aside0.mk hs
  have info5 : ∃ i, Try.prog.info? 5 = some i ∧ i.zero = some (.int .u8 0) ∧ i.size = 1 ∧ i.bytes = 1 := ⟨_, rfl, rfl, rfl, rfl⟩
  obtain ⟨inf, f1, f2, f3, f4⟩ := info5
  have F1 := Aside0.mk f1
  have F2 := Aside0.mk f2
  have F3 := Aside0.mk f3
  have F4 := Aside0.mk f4
  clear f1 f2 f3 f4
  have I52 : Aside0 ((Try.prog.info? 52).map (·.size) = some 5) := ⟨by kernel_rfl⟩
  have U26 : Aside0 (Try.prog.underlying 26 = some (.slice 5)) := ⟨by kernel_rfl⟩
  have U9 : Aside0 (Try.prog.underlying 9 = some .string) := ⟨by kernel_rfl⟩
  have U5 : Aside0 (Try.prog.underlying 5 = some (.int .u8)) := ⟨by kernel_rfl⟩
  obtain ⟨gh, hgh⟩ : ∃ gh, gh = w.heap.size := ⟨_, rfl⟩
  have HGH := Aside0.mk hgh
  obtain ⟨W0, hW0⟩ : ∃ W0, W0 = w.alloc (.cells #[.int .u32 1732584193, .int .u32 4023233417, .int .u32 2562383102, .int .u32 271733878, .int .u32 3285377520] 52) := ⟨_, rfl⟩
  have HW0 := Aside0.mk hW0
  have hsz0 : W0.heap.size = gh + 1 := by rw [hW0, hgh]; simp
  have HSZ := Aside0.mk hsz0
  clear hsz0
  go_enter Try.func15, Try.ntmps15
  go_upto_region 2 with (fail)
  rw [← hgh, ← hW0]
  clear hgh hW0
  go_wp2_with (first | ((with_reducible refine gate_dst (N := 13) rfl ?_); refine conv_bytes (w0 := W0) (gh + 1) rfl 9 26 (.tmp 12) rfl s rfl U9.out U26.out U5.out (Below.refl _ _) (by rw [HSZ.out]; exact Nat.le_refl _) (by have := HS.out; omega) ?_; intro v1 w1 r1 r2 r3; have RW := Aside0.mk r1; have RB := Aside0.mk r2; have RS := Aside0.mk r3; clear r1 r2 r3) | (at_builtin; refine Rw.append (w0 := W0) (gh + 1) rfl (.tmp 13) (.tmp 14) 26 rfl U26.out inf F1.out F2.out F3.out F4.out _ (sbytes s) 128 rfl rfl RW.out RB.out RS.out (by rw [sbytes_len]; have := HS.out; omega) ?_; clear RW RB RS; intro v2 w2 r1 r2 r3; have RW := Aside0.mk r1; have RB := Aside0.mk r2; have RS := Aside0.mk r3; clear r1 r2 r3))
  obtain ⟨n0, hn0⟩ : ∃ n0, n0 = s.size := ⟨_, rfl⟩
  have HN0 := Aside0.mk hn0
  obtain ⟨T, hT⟩ : ∃ T, T = padN s.size - 8 := ⟨_, rfl⟩
  obtain ⟨q, hq⟩ : ∃ q, q = (s.size + 8) / 64 + 1 := ⟨_, rfl⟩
  have hpn : padN s.size = 64 * q := by rw [hq]; unfold padN; omega
  have hge := padN_ge s.size
  have hlt := padN_lt s.size
  have hTq : T + 8 = 64 * q := by omega
  have hT1 : n0 + 1 ≤ T := by omega
  have hT2 : T ≤ n0 + 64 := by omega
  have hn1 : n0 ≤ 1000000 := by rw [hn0]; exact HS.out
  have HQ := Aside0.mk hq
  have HT := Aside0.mk hT
  obtain ⟨base, hbase⟩ : ∃ b, b = sbytes s ++ [128] := ⟨_, rfl⟩
  have hbl : base.length = n0 + 1 := by rw [hbase, hn0, List.length_append, sbytes_len]; rfl
  rw [← hbase] at RW
  have HBASE := Aside0.mk hbase
  have HBL := Aside0.mk hbl
  clear hbase hq hT hge hlt hpn hn0 hbl
  obtain ⟨g2, c2, hv2⟩ := Rw.shape RW.out
  rw [HBL.out] at hv2
  rw [hv2] at RW ⊢
  clear hv2
  go_loopw [4] (fun v4 wr => ∃ N g c : Nat, n0 + 1 ≤ N ∧ N ≤ T ∧ v4 = .slice (some ⟨g, 0, none⟩) N c ∧ Aside0 (Rw wr (gh + 1) (.slice (some ⟨g, 0, none⟩) N c) (base ++ List.replicate (N - (n0 + 1)) 0)) ∧ Aside0 (Below (gh + 1) W0 wr) ∧ Aside0 (gh + 1 ≤ wr.heap.size)) (fun v4 _ => match v4 with | .slice _ n _ => T - n | _ => 0)
  case atStart => exact ⟨n0 + 1, g2, c2, by omega, by omega, rfl, ⟨by rw [Nat.sub_self, List.replicate_zero, List.append_nil]; exact RW.out⟩, RB, RS⟩
  case round =>
    clear RW RB RS
    obtain ⟨N, g, c, hN1, hN2, rfl, RW, RB, RS⟩ := hrel
    have hlen : (base ++ List.replicate (N - (n0 + 1)) 0).length = N := by rw [List.length_append, HBL.out, List.length_replicate]; omega
    have HLEN := Aside0.mk hlen
    clear hlen
    by_cases hNT : N = T
    · have hz : (((N : Nat) : Int) % 64 == 56) = true := by simp; omega
      have hz2 : (((N : Nat) : Int) % 64 != 56) = false := by simp; omega
      go_wp2
      clear hz hz2
      rename (_ != _) = false => hsp
      clear hsp
      subst hNT
      have HTQ := Aside0.mk hTq
      clear hTq
      obtain ⟨b2, hb2⟩ : ∃ b, b = base ++ List.replicate (N - (n0 + 1)) 0 := ⟨_, rfl⟩
      rw [← hb2] at RW HLEN
      have HB2 := Aside0.mk hb2
      clear hb2
      go_loopw [4, 5] (fun v4 v5 wr => ∃ j g c : Nat, j ≤ 8 ∧ v5 = .int .i64 (7 - (j : Int)) ∧ v4 = .slice (some ⟨g, 0, none⟩) (N + j) c ∧ Aside0 (Rw wr (gh + 1) (.slice (some ⟨g, 0, none⟩) (N + j) c) (b2 ++ (lbs s.size 8).take j)) ∧ Aside0 (Below (gh + 1) W0 wr) ∧ Aside0 (gh + 1 ≤ wr.heap.size)) (fun _ v5 _ => (intOf v5 + 1).toNat)
      case atStart => exact ⟨0, g, c, by omega, rfl, rfl, ⟨by rw [List.take_zero, List.append_nil]; exact RW.out⟩, RB, RS⟩
      case round =>
        clear RW RB RS
        obtain ⟨j, g, c, hj, rfl, rfl, RW, RB, RS⟩ := hrel
        have hlen2 : (b2 ++ (lbs s.size 8).take j).length = N + j := by rw [List.length_append, HLEN.out, List.length_take, lbs_len]; omega
        have HLEN2 := Aside0.mk hlen2
        clear hlen2
        by_cases hj8 : j < 8
        · have p0 : (0 : Int) ≤ 7 - (j : Int) := by omega
          have p1 : (0 : Int) ≤ 8 * (7 - (j : Int)) := by omega
          have pt : (8 * (7 - (j : Int))).toNat = 8 * (7 - j) := by omega
          have hval : 8 * (s.size : Int) / 2 ^ (8 * (7 - j)) % 256 = lb s.size (7 - j) := by unfold lb; rw [Int.mul_comm]
          have HVAL := Aside0.mk hval
          clear hval
          have hNle : N ≤ 1000100 := by omega
          go_wp2_with (at_builtin; refine Rw.append (w0 := W0) (gh + 1) rfl (.tmp 27) (.tmp 37) 26 rfl U26.out inf F1.out F2.out F3.out F4.out _ (b2 ++ (lbs s.size 8).take j) (8 * (s.size : Int) / 2 ^ (8 * (7 - j)) % 256) rfl rfl RW.out RB.out RS.out (by rw [HLEN2.out]; omega) ?_; clear RW RB RS; intro v2 w2 r1 r2 r3; have RW := Aside0.mk r1; have RB := Aside0.mk r2; have RS := Aside0.mk r3; clear r1 r2 r3)
          obtain ⟨g3, c3, hv2⟩ := Rw.shape RW.out
          rw [List.length_append, HLEN2.out] at hv2
          rw [hv2] at RW ⊢
          clear hv2
          go_roundw
          case rel => exact ⟨j + 1, g3, c3, by omega, by go_num, rfl, ⟨by rw [lbs_take _ _ hj8, ← List.append_assoc, ← HVAL.out]; exact RW.out⟩, RB, RS⟩
          case measure => simp [intOf]; omega
        · have hj8' : j = 8 := by omega
          subst hj8'
          obtain ⟨L, hL⟩ : ∃ L, L = padK (sbytes s) 8 := ⟨_, rfl⟩
          have RW' : Aside0 (Rw wr (gh + 1) (.slice (some ⟨g, 0, none⟩) (N + 8) c) L) := ⟨by
            have h := RW.out
            rw [List.take_of_length_le (by rw [lbs_len]; omega), HB2.out, HBASE.out, padK_eq s N n0 HN0.out HT.out] at h
            rw [hL]
            exact h⟩
          have HL := Aside0.mk hL
          clear hL RW
          rw [show N + 8 = 64 * q from HTQ.out] at RW' ⊢
          go_wp2
          rw [show (7 - ((8 : Nat) : Int)) = -1 from rfl]
          obtain ⟨c', cur, fr, hv, hB, hg, hf, hsz, hl, hm, ht⟩ : ∃ c' cur fr, c' = c ∧ gh + 1 ≤ g ∧ wr.heap[g]? = some (.cells cur 5 fr) ∧ (fr = (0, 0) ∨ c ≤ fr.1) ∧ cur.size = c ∧ 64 * q ≤ c ∧ c ≤ maxLen ∧ cur.toList.take (64 * q) = nums .u8 L := by
            obtain ⟨g', c', cur, fr, hv, h1, h2, h3, h4, h5, h6, h7⟩ := RW'.out
            injection hv with e1 e2 e3
            injection e1 with e1
            injection e1 with e1
            subst e1 e3
            rw [← e2] at h5 h7
            exact ⟨c, cur, fr, rfl, h1, h2, h3, h4, h5, h6, h7⟩
          have hLl : L.length = 64 * q := by
            obtain ⟨g', c', cur, fr, hv, _⟩ := RW'.out
            injection hv with _ e2 _
            exact e2.symm
          have CEL : Aside0 (∀ j, j < 64 * q → wr.cell? ⟨g, j, none⟩ = some (.int .u8 (L.getD j 0))) := ⟨fun j hj => Rw.cells (c := c) hg (by rw [hLl]; exact ht) j (by rw [hLl]; exact hj)⟩
          have GLT : Aside0 (g < wr.heap.size) := ⟨blk_lt hg⟩
          have G0 : Aside0 (wr.heap[gh]? = some (.cells (nums .u32 (fold L 0)).toArray 52 (0, 0))) := ⟨by
            rw [RB.out.block gh (by omega), HW0.out, HGH.out]
            exact blk_new _ _⟩
          have GB : Aside0 (Below gh w wr) := ⟨by
            have h1 : Below gh w W0 := by rw [HW0.out, HGH.out]; exact below_alloc (Below.refl _ _) _
            exact ⟨RB.out.os.trans h1.os, RB.out.tape.trans h1.tape, RB.out.output.trans h1.output, Nat.le_trans h1.size RB.out.size, fun k hk => (RB.out.block k (by omega)).trans (h1.block k hk)⟩⟩
          have hgg : gh < g := by omega
          have hmax : c ≤ 9223372036854775807 := by simpa [maxLen] using hm
          clear hv hB hg hf hsz hm ht RW' RB RS
          go_loopw [6] (fun v6 wr => ∃ m : Nat, m ≤ q ∧ v6 = .int .i64 ((64 * m : Nat) : Int) ∧ Aside0 (wr.heap[gh]? = some (.cells (nums .u32 (fold L m)).toArray 52 (0, 0))) ∧ Aside0 (∀ j, j < 64 * q → wr.cell? ⟨g, j, none⟩ = some (.int .u8 (L.getD j 0))) ∧ Aside0 (g < wr.heap.size) ∧ Aside0 (Below gh w wr)) (fun v6 _ => 64 * q - (intOf v6).toNat)
          case atStart => exact ⟨0, by omega, rfl, G0, CEL, GLT, GB⟩
          case round =>
            clear G0 CEL GLT GB
            obtain ⟨m, hm, rfl, G0, CEL, GLT, GB⟩ := hrel
            obtain ⟨J, hJ⟩ : ∃ J, J = 64 * m := ⟨_, rfl⟩
            rw [← hJ]
            obtain ⟨a, b, cc, d, e, hfo⟩ := fold5 L m
            have HF := Aside0.mk hfo
            clear hfo
            have R0' : Aside0 (wr.heap[gh]? = some (.cells (nums .u32 [a, b, cc, d, e]).toArray 52 (0, 0))) := ⟨by rw [← HF.out]; exact G0.out⟩
            by_cases hmq : m < q
            · have x0 := nums_cell R0'.out 0 (by simp)
              have x1 := nums_cell R0'.out 1 (by simp)
              have x2 := nums_cell R0'.out 2 (by simp)
              have x3 := nums_cell R0'.out 3 (by simp)
              have x4 := nums_cell R0'.out 4 (by simp)
              have p0 : (0 : Int) ≤ (J : Int) := by omega
              have p1 : (0 : Int) ≤ (J : Int) + 64 := by omega
              have p2 : (J : Int) ≤ (J : Int) + 64 := by omega
              have p3 : (J : Int) + 64 ≤ (c : Int) := by omega
              have p4 : (J : Int) < ((64 * q : Nat) : Int) := by omega
              have pt : ((J : Int) + 64).toNat = J + 64 := by omega
              have pc : ¬ (c = J) := by omega
              have pc2 : ¬ (J = c) := by omega
              have pe : J + 64 - J = 64 := by omega
              have HJ := Aside0.mk hJ
              clear hJ
              go_wp2
              have w0 : IntKind.i64.wrap ((J : Int) + 64) = (J : Int) + 64 := IntWalk.i64_in _ (by omega)
              go_still_tail 6, (by kernel_rfl)
              change wpList _ _ _ _ _ wr.drew
              clear w0 p0 p1 p2 p3 p4 pt pc pc2 pe x0 x1 x2 x3 x4
              have G0' := Aside0.mk (blk_drew R0'.out)
              have BC : Aside0 (∀ j, j < 64 → wr.drew.cell? ⟨g, J + j, none⟩ = some (.int .u8 ((blkOf L m).getD j 0))) := ⟨fun j hj => by
                rw [blkOf_at L m j hj, HJ.out]
                exact CEL.out _ (by omega)⟩
              have CEL' : Aside0 (∀ j, j < 64 * q → wr.drew.cell? ⟨g, j, none⟩ = some (.int .u8 (L.getD j 0))) := ⟨CEL.out⟩
              have GLT' : Aside0 (g < wr.drew.heap.size) := ⟨GLT.out⟩
              have GB' := Aside0.mk (below_drew GB.out)
              clear R0' G0 CEL GLT GB
              generalize wr.drew = w4 at G0' BC CEL' GLT' GB' ⊢
              obtain ⟨C, hC⟩ : ∃ C, C = (nums .u32 (comp [a, b, cc, d, e] (blkOf L m))).toArray := ⟨_, rfl⟩
              have HC := Aside0.mk hC
              clear hC
              have szC : Aside0 (C.size = 5) := ⟨by rw [HC.out]; simp [nums, comp, addH]⟩
              have oneC : Aside0 (C.all (·.oneCell') = true) := ⟨by rw [HC.out]; simp [nums, Value.oneCell']⟩
              go_wp2_with (first | (go_at_call 32; refine (block_calls a b cc d e (blkOf L m) g J _ _ BC.out).mono ?_; rintro e' w5 ⟨rfl, hb⟩; rw [← HC.out]; have WB := Aside0.mk hb; clear hb; have G5 : Aside0 (w5.heap[gh]? = some (.cells (nums .u32 [a, b, cc, d, e]).toArray 52 (0, 0))) := ⟨(WB.out.block gh (blk_lt G0'.out)).trans G0'.out⟩) | ((with_reducible refine gate_store (t := 52) (p := 3) (v := .tmp 51) rfl ?_); refine store_arr 52 (.tmp 3) (.tmp 51) gh 52 _ C rfl rfl rfl rfl rfl (by rw [szC.out]; exact I52.out) (by rw [szC.out]; simp [nums]) oneC.out G5.out ?_))
              go_roundw
              case rel => exact ⟨m + 1, by omega, by rw [HJ.out]; go_num, ⟨by show (w5.setRow gh C).heap[gh]? = some (Obj.cells (nums .u32 (comp (fold L m) (blkOf L m))).toArray 52 (0, 0)); rw [HF.out, ← HC.out]; exact setRow_heap _ _ _ _ _ _ G5.out⟩, ⟨fun j hj => by
                have h1 := CEL'.out j hj
                rw [← h1, World.cell?_of_block (a := ⟨g, j, none⟩) (row_keep (w := w5) (g := g) (p := gh) (by omega) C)]
                exact WB.out.cell (p := ⟨g, j, none⟩) GLT'.out⟩, ⟨by rw [World.size_setRow]; exact Nat.lt_of_lt_of_le GLT'.out WB.out.size⟩, ⟨below_setRow (GB'.out.trans ⟨WB.out.os, WB.out.tape, WB.out.output, WB.out.size, fun k hk => WB.out.block k (Nat.lt_trans hk (blk_lt G0'.out))⟩) (Nat.le_refl _) _⟩⟩
              case measure => simp [intOf]; omega
            · have hmq' : m = q := by omega
              subst hmq'
              subst hJ
              have x0 := nums_cell R0'.out 0 (by simp)
              have x1 := nums_cell R0'.out 1 (by simp)
              have x2 := nums_cell R0'.out 2 (by simp)
              have x3 := nums_cell R0'.out 3 (by simp)
              have x4 := nums_cell R0'.out 4 (by simp)
              go_wp2
              clear x0 x1 x2 x3 x4 R0' G0 CEL GLT
              go_loopw [7, 53] (fun v7 v53 ws => ∃ k : Nat, k ≤ 5 ∧ v53 = .int .i64 (k : Int) ∧ v7 = .string (strOfNums (hexs [a, b, cc, d, e] k)) ∧ Aside0 (Below gh w ws)) (fun _ v53 _ => 5 - (intOf v53).toNat)
              case atStart => exact ⟨0, by omega, rfl, rfl, GB⟩
              case round =>
                clear GB
                obtain ⟨k, hk, rfl, rfl, GB⟩ := hrel
                obtain ⟨O, hO⟩ : ∃ O, O = strOfNums (hexs [a, b, cc, d, e] k) := ⟨_, rfl⟩
                rw [← hO]
                have HO := Aside0.mk hO
                clear hO
                by_cases hk5 : k < 5
                · have gi : ∀ w : World, (Instr.index 52 (.agg #[.int .u32 a, .int .u32 b, .int .u32 cc, .int .u32 d, .int .u32 e]) (.int .i64 (k : Int))).run Try.prog w = .ok (.int .u32 ([a, b, cc, d, e].getD k 0)) w := by
                    have h5 : k = 0 ∨ k = 1 ∨ k = 2 ∨ k = 3 ∨ k = 4 := by omega
                    rcases h5 with rfl | rfl | rfl | rfl | rfl
                    all_goals exact fun _ => by kernel_rfl
                  obtain ⟨x, hx⟩ : ∃ x, x = [a, b, cc, d, e].getD k 0 := ⟨_, rfl⟩
                  rw [← hx] at gi
                  have HX := Aside0.mk hx
                  clear hx
                  go_wp2
                  have hkd : decide ((k : Int) < 5) = true := by simp; omega
                  rw [hkd]
                  clear hkd
                  go_loopw [7, 10] (fun v7 v10 ws => ∃ j : Nat, j ≤ 8 ∧ v10 = .int .i64 (28 - 4 * (j : Int)) ∧ v7 = .string (strOfNums (hexs [a, b, cc, d, e] k ++ hexw x j)) ∧ Aside0 (Below gh w ws)) (fun _ v10 _ => (intOf v10 + 4).toNat)
                  case atStart => exact ⟨0, by omega, rfl, by rw [hexw, List.append_nil, HO.out], GB⟩
                  case round =>
                    clear GB
                    obtain ⟨j, hj, rfl, rfl, GB⟩ := hrel
                    by_cases hj8 : j < 8
                    · have p0 : (0 : Int) ≤ 28 - 4 * (j : Int) := by omega
                      have pt : (28 - 4 * (j : Int)).toNat = 28 - 4 * j := by omega
                      have pj : 0 ≤ bits .and .u32 (x / 2 ^ (28 - 4 * j)) 15 ∧ bits .and .u32 (x / 2 ^ (28 - 4 * j)) 15 < 16 := by
                        have hr := fold_range L m k
                        rw [HF.out, ← HX.out] at hr
                        exact nib_range x hr.1 hr.2 _
                      have pj0 := pj.1
                      have pj1 := pj.2
                      clear pj
                      have hbt : ∀ h, (((⟨#[48, 49, 50, 51, 52, 53, 54, 55, 56, 57, 97, 98, 99, 100, 101, 102]⟩ : ByteArray)[(bits .and .u32 (x / 2 ^ (28 - 4 * j)) 15).toNat]'h).toNat : Int) = hexd x (28 - 4 * j) := bt_at HEX _
                      obtain ⟨D, hD⟩ : ∃ D, D = strOfNums [hexd x (28 - 4 * j)] := ⟨_, rfl⟩
                      have hcv : ∀ W : World, (convert 26 9 (.slice (some ⟨W.heap.size, 0, none⟩) 1 1)).run Try.prog (W.alloc (.cells #[.int .u8 (hexd x (28 - 4 * j))] 5)) = .ok (.string D) (W.alloc (.cells #[.int .u8 (hexd x (28 - 4 * j))] 5)) := fun W => by
                        rw [hD]
                        exact own_string (e := 5) (base := 0) (e' := 5) (by kernel_rfl) (by kernel_rfl) (by kernel_rfl) (World.ownsRow_lit W #[.int .u8 (hexd x (28 - 4 * j))] 1 (Nat.zero_le _) (by simp [maxLen]) rfl)
                      have HD := Aside0.mk hD
                      obtain ⟨O2, hO2⟩ : ∃ O2, O2 = strOfNums (hexs [a, b, cc, d, e] k ++ hexw x j) := ⟨_, rfl⟩
                      have hsum : O2.size + D.size ≤ 9223372036854775807 := by
                        have e1 : ∀ l, (strOfNums l).size = l.length := fun l => by simp [strOfNums, ByteArray.size]
                        rw [hO2, hD, e1, e1, List.length_append, hexs_len, hexw_len]
                        simp
                        omega
                      rw [← hO2]
                      have HO2 := Aside0.mk hO2
                      have hb3 : (9223372036854775807 < O2.size + D.size) = False := eq_false (by omega)
                      clear hO2 hD hsum
                      have hgw : gh ≤ wr.heap.size := by have := GB.out.size; rw [← HGH.out] at this; exact this
                      have HGW := Aside0.mk hgw
                      clear hgw
                      go_wp2
                      go_roundw
                      case rel => exact ⟨j + 1, by omega, by go_num, by rw [hexw, ← List.append_assoc, ← str_app, ← HO2.out, ← HD.out], ⟨GB.out.alloc HGW.out _⟩⟩
                      case measure => simp [intOf]; omega
                    · have hj8' : j = 8 := by omega
                      subst hj8'
                      go_wp2
                      go_roundw
                      case rel => exact ⟨k + 1, by omega, by go_num, by rw [hexs, ← HX.out], GB⟩
                      case measure => simp [intOf]; omega
                · have hk5' : k = 5 := by omega
                  subst hk5'
                  go_wp2
                  go_ret
                  refine ⟨?_, by rw [← HGH.out]; exact GB.out⟩
                  rw [HS5.out]
                  unfold sumB
                  rw [← HL.out, ← HQ.out, HF.out, ← HO.out]
                  rfl
    · have hz : (((N : Nat) : Int) % 64 == 56) = false := by simp; omega
      have hz2 : (((N : Nat) : Int) % 64 != 56) = true := by simp; omega
      have hNle : N ≤ 1000100 := by omega
      go_wp2_with (at_builtin; refine Rw.append (w0 := W0) (gh + 1) rfl (.tmp 20) (.tmp 21) 26 rfl U26.out inf F1.out F2.out F3.out F4.out _ (base ++ List.replicate (N - (n0 + 1)) 0) 0 rfl rfl RW.out RB.out RS.out (by rw [HLEN.out]; omega) ?_; clear RW RB RS; intro v2 w2 r1 r2 r3; have RW := Aside0.mk r1; have RB := Aside0.mk r2; have RS := Aside0.mk r3; clear r1 r2 r3)
      obtain ⟨g3, c3, hv2⟩ := Rw.shape RW.out
      rw [List.length_append, HLEN.out] at hv2
      rw [hv2] at RW ⊢
      clear hv2
      go_roundw
      case rel => exact ⟨N + 1, g3, c3, by omega, by omega, rfl, ⟨by rw [show N + 1 - (n0 + 1) = (N - (n0 + 1)) + 1 by omega, List.replicate_succ', ← List.append_assoc]; exact RW.out⟩, RB, RS⟩
      case measure => simp; omega
end Go.Proofs.Ytcjkichimndioab.Given
