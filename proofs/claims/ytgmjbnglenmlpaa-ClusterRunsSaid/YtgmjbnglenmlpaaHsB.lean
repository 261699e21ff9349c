import Derived.Test.YtgmjbnglenmlpaaHsA
import Derived.Lib.ConvBytes
import Derived.ArgAppend
import Derived.Lib.SmallJoins
section
/- The walk of the reference's block: what hash.take takes in. -/
set_option linter.unusedSimpArgs false
set_option linter.unusedVariables false
set_option maxRecDepth 100000
namespace Go.Proofs.Ytgmjbnglenmlpaa.Given
open Go.RowKit Go.Proofs.YtgmjbnglenmlpaaW.PrintWords
theorem row_far {w : World} {g p : Nat} {o : Obj} (h : w.heap[g]? = some o) (hne : g ≠ p) (cs : Array Value) : (w.setRow p cs).heap[g]? = some o := by
  unfold World.setRow
  rw [Array.getElem?_modify, if_neg (fun e => hne e.symm)]
  exact h
theorem turn1 (x : Int) (w : World) : Calls Try.prog 31 #[.int .u32 x, .int .u64 1] w fun e w' => e = .returned (.int .u32 (rotl x 1)) ∧ w' = w := by
  go_enter Try.func31, Try.ntmps31
  go_wp2
  go_ret
  exact ⟨rfl, rfl⟩
theorem turn5 (x : Int) (w : World) : Calls Try.prog 31 #[.int .u32 x, .int .u64 5] w fun e w' => e = .returned (.int .u32 (rotl x 5)) ∧ w' = w := by
  go_enter Try.func31, Try.ntmps31
  go_wp2
  go_ret
  exact ⟨rfl, rfl⟩
theorem turn30 (x : Int) (w : World) : Calls Try.prog 31 #[.int .u32 x, .int .u64 30] w fun e w' => e = .returned (.int .u32 (rotl x 30)) ∧ w' = w := by
  go_enter Try.func31, Try.ntmps31
  go_wp2
  go_ret
  exact ⟨rfl, rfl⟩
set_option maxHeartbeats 4000000 in
set_option maxRecDepth 100000 in
theorem block_calls (h0 h1 h2 h3 h4 : Int) (l : List Int) (g off c : Nat) (w : World) (hb : ∀ j, j < 64 → w.cell? ⟨g, off + j, none⟩ = some (.int .u8 (l.getD j 0))) :
    Calls Try.prog 21 #[.agg #[.int .u32 h0, .int .u32 h1, .int .u32 h2, .int .u32 h3, .int .u32 h4], .slice (some ⟨g, off, none⟩) 64 c] w fun e w' => e = .returned (.agg (nums .u32 (comp [h0, h1, h2, h3, h4] l)).toArray) ∧ Below w.heap.size w w' := by
  obtain ⟨RES, hRES⟩ : ∃ R, R = (nums .u32 (comp [h0, h1, h2, h3, h4] l)).toArray := ⟨_, rfl⟩
  rw [← hRES]
  have HRES := Aside0.mk hRES
  clear hRES
  have HB := Aside0.mk hb
  have U : Aside0 (Try.prog.underlying 63 = some (.array 80 42)) := ⟨by kernel_rfl⟩
  have U52 : Aside0 (Try.prog.underlying 43 = some (.array 5 42)) := ⟨by kernel_rfl⟩
  have I : Aside0 ((Try.prog.info? 42).map (·.size) = some 1) := ⟨by kernel_rfl⟩
  have I52 : Aside0 ((Try.prog.info? 43).map (·.size) = some 5) := ⟨by kernel_rfl⟩
  clear hb
  obtain ⟨Z, hZ⟩ : ∃ Z, Z = (nums .u32 (List.replicate 80 0)).toArray := ⟨_, rfl⟩
  have hz : ∀ w, (zeroValue 63).run Try.prog w = .ok (.agg Z) w := by rw [hZ]; exact fun _ => by kernel_rfl
  have HZ := Aside0.mk hZ
  clear hZ
  go_enter Try.func21, Try.ntmps21
  go_wp2
  obtain ⟨n, hn⟩ : ∃ n, n = w.heap.size := ⟨_, rfl⟩
  obtain ⟨HH, hHH⟩ : ∃ H : Array Value, H = #[.int .u32 h0, .int .u32 h1, .int .u32 h2, .int .u32 h3, .int .u32 h4] := ⟨_, rfl⟩
  obtain ⟨ZZ, hZZ⟩ : ∃ H : Array Value, H = #[.int .u32 0, .int .u32 0, .int .u32 0, .int .u32 0, .int .u32 0] := ⟨_, rfl⟩
  have A0 : Aside0 ((((w.alloc (Obj.cells #[.int .u32 h0, .int .u32 h1, .int .u32 h2, .int .u32 h3, .int .u32 h4] 43)).alloc (Obj.cells #[.int .u32 0, .int .u32 0, .int .u32 0, .int .u32 0, .int .u32 0] 43)).alloc (Obj.cells Z 63)).heap[n]? = some (.cells HH 43 (0, 0))) := ⟨by rw [hn, hHH]; exact blk_alloc (blk_alloc (blk_new _ _) _) _⟩
  have A3 : Aside0 ((((w.alloc (Obj.cells #[.int .u32 h0, .int .u32 h1, .int .u32 h2, .int .u32 h3, .int .u32 h4] 43)).alloc (Obj.cells #[.int .u32 0, .int .u32 0, .int .u32 0, .int .u32 0, .int .u32 0] 43)).alloc (Obj.cells Z 63)).heap[n + 1]? = some (.cells ZZ 43 (0, 0))) := ⟨by
    rw [hn, hZZ]
    have := blk_new (w.alloc (Obj.cells #[.int .u32 h0, .int .u32 h1, .int .u32 h2, .int .u32 h3, .int .u32 h4] 43)) (Obj.cells #[.int .u32 0, .int .u32 0, .int .u32 0, .int .u32 0, .int .u32 0] 43)
    rw [World.size_alloc] at this
    exact blk_alloc this _⟩
  have A1 : Aside0 ((((w.alloc (Obj.cells #[.int .u32 h0, .int .u32 h1, .int .u32 h2, .int .u32 h3, .int .u32 h4] 43)).alloc (Obj.cells #[.int .u32 0, .int .u32 0, .int .u32 0, .int .u32 0, .int .u32 0] 43)).alloc (Obj.cells Z 63)).heap[n + 2]? = some (.cells (nums .u32 (W16 l 0)).toArray 63 (0, 0))) := ⟨by
    rw [hn]
    have := blk_new ((w.alloc (Obj.cells #[.int .u32 h0, .int .u32 h1, .int .u32 h2, .int .u32 h3, .int .u32 h4] 43)).alloc (Obj.cells #[.int .u32 0, .int .u32 0, .int .u32 0, .int .u32 0, .int .u32 0] 43)) (Obj.cells Z 63)
    rw [World.size_alloc, World.size_alloc, HZ.out] at this
    rw [HZ.out]
    simpa [W16] using this⟩
  have A2 : Aside0 (Below n w (((w.alloc (Obj.cells #[.int .u32 h0, .int .u32 h1, .int .u32 h2, .int .u32 h3, .int .u32 h4] 43)).alloc (Obj.cells #[.int .u32 0, .int .u32 0, .int .u32 0, .int .u32 0, .int .u32 0] 43)).alloc (Obj.cells Z 63))) := ⟨by rw [hn]; exact below_alloc (below_alloc (below_alloc (Below.refl _ _) _) _) _⟩
  generalize ((w.alloc (Obj.cells #[.int .u32 h0, .int .u32 h1, .int .u32 h2, .int .u32 h3, .int .u32 h4] 43)).alloc (Obj.cells #[.int .u32 0, .int .u32 0, .int .u32 0, .int .u32 0, .int .u32 0] 43)).alloc (Obj.cells Z 63) = W at A0 A1 A2 A3 ⊢
  rw [← hn, show n + 1 + 1 = n + 2 from rfl]
  have HN := Aside0.mk hn
  have HHH := Aside0.mk hHH
  have HZZ := Aside0.mk hZZ
  clear hn hHH hZZ
  go_loopw [14] (fun v6 wr => ∃ k : Nat, k ≤ 16 ∧ v6 = .int .i64 k ∧ Aside0 (wr.heap[n + 2]? = some (.cells (nums .u32 (W16 l k)).toArray 63 (0, 0))) ∧ Aside0 (wr.heap[n]? = some (.cells HH 43 (0, 0))) ∧ Aside0 (wr.heap[n + 1]? = some (.cells ZZ 43 (0, 0))) ∧ Aside0 (Below n w wr)) (fun v6 _ => 16 - (intOf v6).toNat)
  case atStart => exact ⟨0, by omega, rfl, A1, A0, A3, A2⟩
  case round =>
    obtain ⟨k, hk, rfl, R1, R0, R3, RB⟩ := hrel
    by_cases hlt : k < 16
    · have ix := arr_index U.out I.out (n + 2) k .i64 (k : Int) rfl (by omega)
      have hcell : ∀ j, j < 64 → wr.cell? ⟨g, off + j, none⟩ = some (.int .u8 (l.getD j 0)) := fun j hj => by
        have h1 := HB.out j hj
        have h2 := World.block_lt_of_cell? w _ h1
        rw [← HN.out] at h2
        exact (RB.out.cell h2).trans h1
      have c0 := hcell (4 * k) (by omega)
      have c1 := hcell (4 * k + 1) (by omega)
      have c2 := hcell (4 * k + 2) (by omega)
      have c3 := hcell (4 * k + 3) (by omega)
      obtain ⟨x0, hx0⟩ : ∃ x, x = l.getD (4 * k) 0 := ⟨_, rfl⟩
      obtain ⟨x1, hx1⟩ : ∃ x, x = l.getD (4 * k + 1) 0 := ⟨_, rfl⟩
      obtain ⟨x2, hx2⟩ : ∃ x, x = l.getD (4 * k + 2) 0 := ⟨_, rfl⟩
      obtain ⟨x3, hx3⟩ : ∃ x, x = l.getD (4 * k + 3) 0 := ⟨_, rfl⟩
      rw [← hx0] at c0
      rw [← hx1] at c1
      rw [← hx2] at c2
      rw [← hx3] at c3
      have HX0 := Aside0.mk hx0
      have HX1 := Aside0.mk hx1
      have HX2 := Aside0.mk hx2
      have HX3 := Aside0.mk hx3
      clear hx0 hx1 hx2 hx3 hcell
      have fz : wr.frozen? ⟨n + 2, k, none⟩ = false := blk_frozen R1.out k
      have p0 : (0 : Int) ≤ 4 * (k : Int) := by omega
      have p1 : (0 : Int) ≤ 4 * (k : Int) + 1 := by omega
      have p2 : (0 : Int) ≤ 4 * (k : Int) + 2 := by omega
      have p3 : (0 : Int) ≤ 4 * (k : Int) + 3 := by omega
      have q0 : 4 * (k : Int) < 64 := by omega
      have q1 : 4 * (k : Int) + 1 < 64 := by omega
      have q2 : 4 * (k : Int) + 2 < 64 := by omega
      have q3 : 4 * (k : Int) + 3 < 64 := by omega
      have t0 : (4 * (k : Int)).toNat = 4 * k := by omega
      have t1 : (4 * (k : Int) + 1).toNat = 4 * k + 1 := by omega
      have t2 : (4 * (k : Int) + 2).toNat = 4 * k + 2 := by omega
      have t3 : (4 * (k : Int) + 3).toNat = 4 * k + 3 := by omega
      go_wp2
      have w0 : IntKind.i64.wrap (4 * (k : Int)) = 4 * (k : Int) := IntWalk.i64_in _ (by omega)
      have w1 : IntKind.i64.wrap (4 * (k : Int) + 1) = 4 * (k : Int) + 1 := IntWalk.i64_in _ (by omega)
      have w2 : IntKind.i64.wrap (4 * (k : Int) + 2) = 4 * (k : Int) + 2 := IntWalk.i64_in _ (by omega)
      have w3 : IntKind.i64.wrap (4 * (k : Int) + 3) = 4 * (k : Int) + 3 := IntWalk.i64_in _ (by omega)
      go_still_tail 35, (by kernel_rfl)
      change wpList _ _ _ _ _ wr.drew
      clear w0 w1 w2 w3 t0 t1 t2 t3 p0 p1 p2 p3 q0 q1 q2 q3
      generalize hy : bits BinOp.or IntKind.u32 (bits .or .u32 (bits .or .u32 (IntKind.u32.wrap (IntKind.u32.wrap x0 * 16777216)) (IntKind.u32.wrap (IntKind.u32.wrap x1 * 65536))) (IntKind.u32.wrap (IntKind.u32.wrap x2 * 256))) (IntKind.u32.wrap x3) = y
      have HY : Aside0 (word l k = y) := ⟨by unfold word wd; rw [← HX0.out, ← HX1.out, ← HX2.out, ← HX3.out]; exact hy⟩
      clear hy c0 c1 c2 c3
      have R1' := Aside0.mk (blk_drew R1.out)
      have R0' := Aside0.mk (blk_drew R0.out)
      have R3' := Aside0.mk (blk_drew R3.out)
      have RB' := Aside0.mk (below_drew RB.out)
      have fz' : wr.drew.frozen? ⟨n + 2, k, none⟩ = false := blk_frozen R1'.out k
      clear R1 R0 R3 RB fz
      generalize wr.drew = w4 at R1' R0' R3' RB' fz' ⊢
      obtain ⟨v0, cw⟩ : ∃ v, w4.cell? ⟨n + 2, k, none⟩ = some v := ⟨_, by rw [blk_cell R1'.out]; exact Array.getElem?_eq_getElem (by simp [nums, W16]; omega)⟩
      go_wp2
      go_roundw
      case rel => exact ⟨k + 1, by omega, by go_num, ⟨by rw [← HY.out]; exact blk_put R1'.out k _ (W16_next l k (by omega))⟩, ⟨blk_far R0'.out (by simp) _⟩, ⟨blk_far R3'.out (by simp) _⟩, ⟨RB'.out.setCell (by simp) _⟩⟩
      case measure => simp [intOf]; omega
    · have hk16 : k = 16 := by omega
      subst hk16
      have R1' : Aside0 (wr.heap[n + 2]? = some (.cells (nums .u32 (W80 l 0)).toArray 63 (0, 0))) := R1
      clear R1
      go_wp2
      rw [show ((16 : Nat) : Int) = 16 from rfl]
      go_loopw [7] (fun v5 w5 => ∃ j : Nat, 16 ≤ j ∧ j ≤ 80 ∧ v5 = .int .i64 (j : Int) ∧ Aside0 (w5.heap[n + 2]? = some (.cells (nums .u32 (W80 l (j - 16))).toArray 63 (0, 0))) ∧ Aside0 (w5.heap[n]? = some (.cells HH 43 (0, 0))) ∧ Aside0 (w5.heap[n + 1]? = some (.cells ZZ 43 (0, 0))) ∧ Aside0 (Below n w w5)) (fun v5 _ => 80 - (intOf v5).toNat)
      case atStart => exact ⟨16, by omega, by omega, rfl, R1', R0, R3, RB⟩
      case round =>
        clear R1' R0 R3 RB
        obtain ⟨j, hj16, hj80, rfl, R1, R0, R3, RB⟩ := hrel
        by_cases hlt : j < 80
        · obtain ⟨m, hm⟩ : ∃ m, m = j - 16 := ⟨_, rfl⟩
          rw [← hm] at R1
          have hjm : j = 16 + m := by omega
          have HM := Aside0.mk hjm
          clear hm hjm
          have hm64 : m < 64 := by have := HM.out; omega
          have at_ : ∀ i, i < 16 + m → wr.cell? ⟨n + 2, i, none⟩ = some (.int .u32 ((sch l m).getD i 0)) := fun i hi => by
            rw [← W80_at l m i hi]
            exact nums_cell R1.out i (by rw [W80_len l m (by omega)]; omega)
          have c13 := at_ (m + 13) (by omega)
          have c8 := at_ (m + 8) (by omega)
          have c2 := at_ (m + 2) (by omega)
          have c0 := at_ m (by omega)
          clear at_
          obtain ⟨y13, h13⟩ : ∃ y, y = (sch l m).getD (m + 13) 0 := ⟨_, rfl⟩
          obtain ⟨y8, h8⟩ : ∃ y, y = (sch l m).getD (m + 8) 0 := ⟨_, rfl⟩
          obtain ⟨y2, h2⟩ : ∃ y, y = (sch l m).getD (m + 2) 0 := ⟨_, rfl⟩
          obtain ⟨y0, h0⟩ : ∃ y, y = (sch l m).getD m 0 := ⟨_, rfl⟩
          rw [← h13] at c13
          rw [← h8] at c8
          rw [← h2] at c2
          rw [← h0] at c0
          have H13 := Aside0.mk h13
          have H8 := Aside0.mk h8
          have H2 := Aside0.mk h2
          have H0 := Aside0.mk h0
          clear h13 h8 h2 h0
          have i3 := arr_index U.out I.out (n + 2) (m + 13) .i64 ((j : Int) - 3) (by have := HM.out; omega) (by omega)
          have i8 := arr_index U.out I.out (n + 2) (m + 8) .i64 ((j : Int) - 8) (by have := HM.out; omega) (by omega)
          have i14 := arr_index U.out I.out (n + 2) (m + 2) .i64 ((j : Int) - 14) (by have := HM.out; omega) (by omega)
          have i16 := arr_index U.out I.out (n + 2) m .i64 ((j : Int) - 16) (by have := HM.out; omega) (by omega)
          have ij := arr_index U.out I.out (n + 2) j .i64 (j : Int) rfl (by omega)
          go_wp2
          have w3 : IntKind.i64.wrap ((j : Int) - 3) = (j : Int) - 3 := IntWalk.i64_in _ (by omega)
          have w8 : IntKind.i64.wrap ((j : Int) - 8) = (j : Int) - 8 := IntWalk.i64_in _ (by omega)
          have w14 : IntKind.i64.wrap ((j : Int) - 14) = (j : Int) - 14 := IntWalk.i64_in _ (by omega)
          have w16 : IntKind.i64.wrap ((j : Int) - 16) = (j : Int) - 16 := IntWalk.i64_in _ (by omega)
          refine wp_region_still_tail 22 (by kernel_rfl) (by kernel_rfl) ?_
          simp only [List.take_succ_cons, List.take_zero, List.drop_succ_cons, List.drop_zero]
          repeat still_step
          still_call (turn1 _ _)
          repeat still_step
          try refine wpStill_nil ?_
          change wpList _ _ _ _ _ wr.drew
          generalize hy : rotl (bits .xor .u32 (bits .xor .u32 (bits .xor .u32 y13 y8) y2) y0) 1 = y
          have HY : Aside0 (rotl (bits .xor .u32 (bits .xor .u32 (bits .xor .u32 ((sch l m).getD (m + 13) 0) ((sch l m).getD (m + 8) 0)) ((sch l m).getD (m + 2) 0)) ((sch l m).getD m 0)) 1 = y) := ⟨by rw [← H13.out, ← H8.out, ← H2.out, ← H0.out]; exact hy⟩
          clear hy c13 c8 c2 c0 w3 w8 w14 w16 i3 i8 i14 i16
          have R1' := Aside0.mk (blk_drew R1.out)
          have R0' := Aside0.mk (blk_drew R0.out)
          have R3' := Aside0.mk (blk_drew R3.out)
          have RB' := Aside0.mk (below_drew RB.out)
          clear R1 R0 R3 RB
          have fz' : wr.drew.frozen? ⟨n + 2, j, none⟩ = false := blk_frozen R1'.out j
          generalize wr.drew = w4 at R1' R0' R3' RB' fz' ⊢
          obtain ⟨v0, cw⟩ : ∃ v, w4.cell? ⟨n + 2, j, none⟩ = some v := ⟨_, nums_cell R1'.out j (by rw [W80_len l m (by omega)]; omega)⟩
          go_wp2
          go_roundw
          case rel => exact ⟨j + 1, by omega, by omega, by go_num, ⟨by rw [← HY.out, show j + 1 - 16 = m + 1 by have := HM.out; omega]; exact blk_put R1'.out j _ (by rw [HM.out]; exact W80_next l m hm64)⟩, ⟨blk_far R0'.out (by simp) _⟩, ⟨blk_far R3'.out (by simp) _⟩, ⟨RB'.out.setCell (by simp) _⟩⟩
          case measure => simp [intOf]; omega
        · have hj : j = 80 := by omega
          subst hj
          have R0n : Aside0 (wr.heap[n]? = some (.cells (nums .u32 [h0, h1, h2, h3, h4]).toArray 43 (0, 0))) := ⟨by rw [R0.out, HHH.out]; rfl⟩
          have R1n : Aside0 (wr.heap[n + 2]? = some (.cells (nums .u32 (sch l 64)).toArray 63 (0, 0))) := ⟨by
            have : W80 l 64 = sch l 64 := by simp [W80]
            rw [← this]
            exact R1.out⟩
          have x0 := nums_cell R0n.out 0 (by simp)
          have x1 := nums_cell R0n.out 1 (by simp)
          have x2 := nums_cell R0n.out 2 (by simp)
          have x3 := nums_cell R0n.out 3 (by simp)
          have x4 := nums_cell R0n.out 4 (by simp)
          clear R0 R1
          go_wp2
          rw [show ((80 : Nat) : Int) = 80 from rfl]
          clear x0 x1 x2 x3 x4
          obtain ⟨p, hp⟩ : ∃ p, p = wr.heap.size := ⟨_, rfl⟩
          have P0 : Aside0 ((wr.alloc (Obj.cells #[.int .u32 h0, .int .u32 h1, .int .u32 h2, .int .u32 h3, .int .u32 h4] 43)).heap[p]? = some (.cells (nums .u32 [h0, h1, h2, h3, h4]).toArray 43 (0, 0))) := ⟨by rw [hp]; exact blk_new _ _⟩
          have hnp : n + 2 < p := by rw [hp]; exact blk_lt R1n.out
          have Q0 := Aside0.mk (blk_alloc R0n.out (Obj.cells #[.int .u32 h0, .int .u32 h1, .int .u32 h2, .int .u32 h3, .int .u32 h4] 43))
          have Q3 := Aside0.mk (blk_alloc R3.out (Obj.cells #[.int .u32 h0, .int .u32 h1, .int .u32 h2, .int .u32 h3, .int .u32 h4] 43))
          have Q1 := Aside0.mk (blk_alloc R1n.out (Obj.cells #[.int .u32 h0, .int .u32 h1, .int .u32 h2, .int .u32 h3, .int .u32 h4] 43))
          have QB : Aside0 (Below n w (wr.alloc (Obj.cells #[.int .u32 h0, .int .u32 h1, .int .u32 h2, .int .u32 h3, .int .u32 h4] 43))) := ⟨RB.out.alloc (by omega) _⟩
          rw [← hp]
          clear hp R0n R3 R1n RB
          generalize wr.alloc (Obj.cells #[.int .u32 h0, .int .u32 h1, .int .u32 h2, .int .u32 h3, .int .u32 h4] 43) = W3 at P0 Q0 Q3 Q1 QB ⊢
          go_loopw [80] (fun v80 ws => ∃ k : Nat, k ≤ 80 ∧ v80 = .int .i64 (k : Int) ∧ ∃ a b c d e : Int, Aside0 (rnds (sch l 64) (h0, h1, h2, h3, h4) k = (a, b, c, d, e)) ∧ Aside0 (ws.heap[p]? = some (.cells (nums .u32 [a, b, c, d, e]).toArray 43 (0, 0))) ∧ Aside0 (ws.heap[n]? = some (.cells (nums .u32 [h0, h1, h2, h3, h4]).toArray 43 (0, 0))) ∧ Aside0 (ws.heap[n + 1]? = some (.cells ZZ 43 (0, 0))) ∧ Aside0 (ws.heap[n + 2]? = some (.cells (nums .u32 (sch l 64)).toArray 63 (0, 0))) ∧ Aside0 (Below n w ws)) (fun v80 _ => 80 - (intOf v80).toNat)
          case atStart => exact ⟨0, by omega, rfl, h0, h1, h2, h3, h4, ⟨rfl⟩, P0, Q0, Q3, Q1, QB⟩
          case round =>
            clear P0 Q0 Q3 Q1 QB
            obtain ⟨k, hk, rfl, a, b, cc, d, e, HR, P0, Q0, Q3, Q1, QB⟩ := hrel
            by_cases hk80 : k < 80
            · obtain ⟨y, hy⟩ : ∃ y, y = (sch l 64).getD k 0 := ⟨_, rfl⟩
              have cw : wr.cell? ⟨n + 2, k, none⟩ = some (.int .u32 y) := by rw [hy]; exact nums_cell Q1.out k (by rw [sch_len]; omega)
              have HY := Aside0.mk hy
              clear hy
              have ix := arr_index U.out I.out (n + 2) k .i64 (k : Int) rfl (by omega)
              have x0 := nums_cell P0.out 0 (by simp)
              have x1 := nums_cell P0.out 1 (by simp)
              have x2 := nums_cell P0.out 2 (by simp)
              have x3 := nums_cell P0.out 3 (by simp)
              have x4 := nums_cell P0.out 4 (by simp)
              have i0 := arr_index U52.out I.out p 0 .i64 0 rfl (by omega)
              have i1 := arr_index U52.out I.out p 1 .i64 1 rfl (by omega)
              have i2 := arr_index U52.out I.out p 2 .i64 2 rfl (by omega)
              have i3 := arr_index U52.out I.out p 3 .i64 3 rfl (by omega)
              have i4 := arr_index U52.out I.out p 4 .i64 4 rfl (by omega)
              have hways : (k < 20 ∧ Aside0 (mixF k b cc d = ch b cc d) ∧ Aside0 (mixK k = 1518500249)) ∨ (20 ≤ k ∧ k < 40 ∧ Aside0 (mixF k b cc d = par b cc d) ∧ Aside0 (mixK k = 1859775393)) ∨ (40 ≤ k ∧ k < 60 ∧ Aside0 (mixF k b cc d = maj b cc d) ∧ Aside0 (mixK k = 2400959708)) ∨ (60 ≤ k ∧ Aside0 (mixF k b cc d = par b cc d) ∧ Aside0 (mixK k = 3395469782)) := by
                by_cases c0 : k < 20
                · exact .inl ⟨c0, ⟨by unfold mixF; rw [if_pos c0]⟩, ⟨by unfold mixK; rw [if_pos c0]⟩⟩
                by_cases c1 : k < 40
                · exact .inr (.inl ⟨by omega, c1, ⟨by unfold mixF; rw [if_neg c0, if_pos c1]⟩, ⟨by unfold mixK; rw [if_neg c0, if_pos c1]⟩⟩)
                by_cases c2 : k < 60
                · exact .inr (.inr (.inl ⟨by omega, c2, ⟨by unfold mixF; rw [if_neg c0, if_neg c1, if_pos c2]⟩, ⟨by unfold mixK; rw [if_neg c0, if_neg c1, if_pos c2]⟩⟩))
                · exact .inr (.inr (.inr ⟨by omega, ⟨by unfold mixF; rw [if_neg c0, if_neg c1, if_neg c2]⟩, ⟨by unfold mixK; rw [if_neg c0, if_neg c1, if_neg c2]⟩⟩))
              rcases hways with ⟨l1, hF, hK⟩ | ⟨l0, l1, hF, hK⟩ | ⟨l0, l1, hF, hK⟩ | ⟨l0, hF, hK⟩
              all_goals
                go_wp2
                go_quiet ((go_at_call 31; exact Calls.quiet_of_same (turn5 _ _)))
                go_wp2
                have P0' : Aside0 ((wr.drewN nq).heap[p]? = some (.cells (nums .u32 [a, b, cc, d, e]).toArray 43 (0, 0))) := ⟨blk_drewN P0.out _⟩
                have Q0' : Aside0 ((wr.drewN nq).heap[n]? = some (.cells (nums .u32 [h0, h1, h2, h3, h4]).toArray 43 (0, 0))) := ⟨blk_drewN Q0.out _⟩
                have Q3' : Aside0 ((wr.drewN nq).heap[n + 1]? = some (.cells ZZ 43 (0, 0))) := ⟨blk_drewN Q3.out _⟩
                have Q1' : Aside0 ((wr.drewN nq).heap[n + 2]? = some (.cells (nums .u32 (sch l 64)).toArray 63 (0, 0))) := ⟨blk_drewN Q1.out _⟩
                have QB' : Aside0 (Below n w (wr.drewN nq)) := ⟨pw_below_drewN QB.out _⟩
                clear P0 Q0 Q3 Q1 QB x0 x1 x2 x3 x4 cw
                generalize wr.drewN nq = w5 at P0' Q0' Q3' Q1' QB' ⊢
                have x0 := nums_cell P0'.out 0 (by simp)
                have x1 := nums_cell P0'.out 1 (by simp)
                have x2 := nums_cell P0'.out 2 (by simp)
                have x3 := nums_cell P0'.out 3 (by simp)
                refine wp_region_still_tail 11 (by kernel_rfl) (by kernel_rfl) ?_
                simp only [List.take_succ_cons, List.take_zero, List.drop_succ_cons, List.drop_zero]
                repeat still_step
                still_call (turn30 _ _)
                repeat still_step
                try refine wpStill_nil ?_
                change wpList _ _ _ _ _ w5.drew
                have P1 := Aside0.mk (blk_drew P0'.out)
                have N0 := Aside0.mk (blk_drew Q0'.out)
                have N3 := Aside0.mk (blk_drew Q3'.out)
                have N1 := Aside0.mk (blk_drew Q1'.out)
                have NB := Aside0.mk (below_drew QB'.out)
                clear P0' Q0' Q3' Q1' QB' x0 x1 x2 x3
                generalize w5.drew = w6 at P1 N0 N3 N1 NB ⊢
                go_wp2_with ((with_reducible refine gate_store (t := 43) (p := 8) (v := .tmp 161) rfl ?_); refine store_arr 43 (.tmp 8) (.tmp 161) p 43 _ _ rfl rfl rfl rfl rfl I52.out (by simp [nums]) (by simp [Value.oneCell']) P1.out ?_)
                go_roundw
                case rel => exact ⟨k + 1, by omega, by go_num, _, _, _, _, _, ⟨by show stp _ k (rnds _ _ k) = _; rw [HR.out]; unfold stp; dsimp only; rw [hF.out, hK.out, ← HY.out]; rfl⟩, ⟨setRow_heap _ _ _ _ _ _ P1.out⟩, ⟨row_far N0.out (by omega) _⟩, ⟨row_far N3.out (by omega) _⟩, ⟨row_far N1.out (by omega) _⟩, ⟨below_setRow NB.out (by omega) _⟩⟩
                case measure => simp [intOf]; omega
            · have hk8 : k = 80 := by omega
              subst hk8
              have N0 : Aside0 (wr.heap[n]? = some (.cells (nums .u32 (addH h0 h1 h2 h3 h4 a b cc d e 0)).toArray 43 (0, 0))) := Q0
              have HR' := Aside0.mk (comp_eq _ _ _ _ _ _ _ _ _ _ _ HR.out)
              have i0 := arr_index U52.out I.out p 0 .i64 0 rfl (by omega)
              have i1 := arr_index U52.out I.out p 1 .i64 1 rfl (by omega)
              have i2 := arr_index U52.out I.out p 2 .i64 2 rfl (by omega)
              have i3 := arr_index U52.out I.out p 3 .i64 3 rfl (by omega)
              have i4 := arr_index U52.out I.out p 4 .i64 4 rfl (by omega)
              have j0 := arr_index U52.out I.out n 0 .i64 0 rfl (by omega)
              have j1 := arr_index U52.out I.out n 1 .i64 1 rfl (by omega)
              have j2 := arr_index U52.out I.out n 2 .i64 2 rfl (by omega)
              have j3 := arr_index U52.out I.out n 3 .i64 3 rfl (by omega)
              have j4 := arr_index U52.out I.out n 4 .i64 4 rfl (by omega)
              clear Q0 Q1 HR
              go_wp2
              rw [show ((80 : Nat) : Int) = 80 from rfl]
              go_loopw [163] (fun v163 ws => ∃ k : Nat, k ≤ 5 ∧ v163 = .int .i64 (k : Int) ∧ Aside0 (ws.heap[n]? = some (.cells (nums .u32 (addH h0 h1 h2 h3 h4 a b cc d e k)).toArray 43 (0, 0))) ∧ Aside0 (ws.heap[p]? = some (.cells (nums .u32 [a, b, cc, d, e]).toArray 43 (0, 0))) ∧ Aside0 (ws.heap[n + 1]? = some (.cells ZZ 43 (0, 0))) ∧ Aside0 (Below n w ws)) (fun v163 _ => 5 - (intOf v163).toNat)
              case atStart => exact ⟨0, by omega, rfl, N0, P0, Q3, QB⟩
              case round =>
                clear N0 P0 Q3 QB
                obtain ⟨k, hk, rfl, N0, P0, Q3, QB⟩ := hrel
                have hk5 : k = 0 ∨ k = 1 ∨ k = 2 ∨ k = 3 ∨ k = 4 ∨ k = 5 := by omega
                rcases hk5 with rfl | rfl | rfl | rfl | rfl | rfl
                · have cw : wr.cell? ⟨n, 0, none⟩ = some (.int .u32 h0) := nums_cell N0.out 0 (by simp [addH])
                  have cv : wr.cell? ⟨p, 0, none⟩ = some (.int .u32 a) := nums_cell P0.out 0 (by simp)
                  go_wp2
                  go_still_tail 9, (by kernel_rfl)
                  change wpList _ _ _ _ _ wr.drew
                  have N0' := Aside0.mk (blk_drew N0.out)
                  have P0' := Aside0.mk (blk_drew P0.out)
                  have Q3' := Aside0.mk (blk_drew Q3.out)
                  have QB' := Aside0.mk (below_drew QB.out)
                  have cw' : wr.drew.cell? ⟨n, 0, none⟩ = some (.int .u32 h0) := nums_cell N0'.out 0 (by simp [addH])
                  have fz' : wr.drew.frozen? ⟨n, 0, none⟩ = false := blk_frozen N0'.out 0
                  clear N0 P0 Q3 QB cw cv
                  generalize wr.drew = w4 at N0' P0' Q3' QB' cw' fz' ⊢
                  go_wp2
                  go_roundw
                  case rel => exact ⟨1, by omega, by simp, ⟨blk_put N0'.out 0 _ (by simp [addH, nums])⟩, ⟨blk_far P0'.out (by simp; omega) _⟩, ⟨blk_far Q3'.out (by simp) _⟩, ⟨QB'.out.setCell (by simp) _⟩⟩
                  case measure => simp [intOf]
                · have cw : wr.cell? ⟨n, 1, none⟩ = some (.int .u32 h1) := nums_cell N0.out 1 (by simp [addH])
                  have cv : wr.cell? ⟨p, 1, none⟩ = some (.int .u32 b) := nums_cell P0.out 1 (by simp)
                  go_wp2
                  go_still_tail 9, (by kernel_rfl)
                  change wpList _ _ _ _ _ wr.drew
                  have N0' := Aside0.mk (blk_drew N0.out)
                  have P0' := Aside0.mk (blk_drew P0.out)
                  have Q3' := Aside0.mk (blk_drew Q3.out)
                  have QB' := Aside0.mk (below_drew QB.out)
                  have cw' : wr.drew.cell? ⟨n, 1, none⟩ = some (.int .u32 h1) := nums_cell N0'.out 1 (by simp [addH])
                  have fz' : wr.drew.frozen? ⟨n, 1, none⟩ = false := blk_frozen N0'.out 1
                  clear N0 P0 Q3 QB cw cv
                  generalize wr.drew = w4 at N0' P0' Q3' QB' cw' fz' ⊢
                  go_wp2
                  go_roundw
                  case rel => exact ⟨2, by omega, by simp, ⟨blk_put N0'.out 1 _ (by simp [addH, nums])⟩, ⟨blk_far P0'.out (by simp; omega) _⟩, ⟨blk_far Q3'.out (by simp) _⟩, ⟨QB'.out.setCell (by simp) _⟩⟩
                  case measure => simp [intOf]
                · have cw : wr.cell? ⟨n, 2, none⟩ = some (.int .u32 h2) := nums_cell N0.out 2 (by simp [addH])
                  have cv : wr.cell? ⟨p, 2, none⟩ = some (.int .u32 cc) := nums_cell P0.out 2 (by simp)
                  go_wp2
                  go_still_tail 9, (by kernel_rfl)
                  change wpList _ _ _ _ _ wr.drew
                  have N0' := Aside0.mk (blk_drew N0.out)
                  have P0' := Aside0.mk (blk_drew P0.out)
                  have Q3' := Aside0.mk (blk_drew Q3.out)
                  have QB' := Aside0.mk (below_drew QB.out)
                  have cw' : wr.drew.cell? ⟨n, 2, none⟩ = some (.int .u32 h2) := nums_cell N0'.out 2 (by simp [addH])
                  have fz' : wr.drew.frozen? ⟨n, 2, none⟩ = false := blk_frozen N0'.out 2
                  clear N0 P0 Q3 QB cw cv
                  generalize wr.drew = w4 at N0' P0' Q3' QB' cw' fz' ⊢
                  go_wp2
                  go_roundw
                  case rel => exact ⟨3, by omega, by simp, ⟨blk_put N0'.out 2 _ (by simp [addH, nums])⟩, ⟨blk_far P0'.out (by simp; omega) _⟩, ⟨blk_far Q3'.out (by simp) _⟩, ⟨QB'.out.setCell (by simp) _⟩⟩
                  case measure => simp [intOf]
                · have cw : wr.cell? ⟨n, 3, none⟩ = some (.int .u32 h3) := nums_cell N0.out 3 (by simp [addH])
                  have cv : wr.cell? ⟨p, 3, none⟩ = some (.int .u32 d) := nums_cell P0.out 3 (by simp)
                  go_wp2
                  go_still_tail 9, (by kernel_rfl)
                  change wpList _ _ _ _ _ wr.drew
                  have N0' := Aside0.mk (blk_drew N0.out)
                  have P0' := Aside0.mk (blk_drew P0.out)
                  have Q3' := Aside0.mk (blk_drew Q3.out)
                  have QB' := Aside0.mk (below_drew QB.out)
                  have cw' : wr.drew.cell? ⟨n, 3, none⟩ = some (.int .u32 h3) := nums_cell N0'.out 3 (by simp [addH])
                  have fz' : wr.drew.frozen? ⟨n, 3, none⟩ = false := blk_frozen N0'.out 3
                  clear N0 P0 Q3 QB cw cv
                  generalize wr.drew = w4 at N0' P0' Q3' QB' cw' fz' ⊢
                  go_wp2
                  go_roundw
                  case rel => exact ⟨4, by omega, by simp, ⟨blk_put N0'.out 3 _ (by simp [addH, nums])⟩, ⟨blk_far P0'.out (by simp; omega) _⟩, ⟨blk_far Q3'.out (by simp) _⟩, ⟨QB'.out.setCell (by simp) _⟩⟩
                  case measure => simp [intOf]
                · have cw : wr.cell? ⟨n, 4, none⟩ = some (.int .u32 h4) := nums_cell N0.out 4 (by simp [addH])
                  have cv : wr.cell? ⟨p, 4, none⟩ = some (.int .u32 e) := nums_cell P0.out 4 (by simp)
                  go_wp2
                  go_still_tail 9, (by kernel_rfl)
                  change wpList _ _ _ _ _ wr.drew
                  have N0' := Aside0.mk (blk_drew N0.out)
                  have P0' := Aside0.mk (blk_drew P0.out)
                  have Q3' := Aside0.mk (blk_drew Q3.out)
                  have QB' := Aside0.mk (below_drew QB.out)
                  have cw' : wr.drew.cell? ⟨n, 4, none⟩ = some (.int .u32 h4) := nums_cell N0'.out 4 (by simp [addH])
                  have fz' : wr.drew.frozen? ⟨n, 4, none⟩ = false := blk_frozen N0'.out 4
                  clear N0 P0 Q3 QB cw cv
                  generalize wr.drew = w4 at N0' P0' Q3' QB' cw' fz' ⊢
                  go_wp2
                  go_roundw
                  case rel => exact ⟨5, by omega, by simp, ⟨blk_put N0'.out 4 _ (by simp [addH, nums])⟩, ⟨blk_far P0'.out (by simp; omega) _⟩, ⟨blk_far Q3'.out (by simp) _⟩, ⟨QB'.out.setCell (by simp) _⟩⟩
                  case measure => simp [intOf]
                · have N0' : Aside0 (wr.heap[n]? = some (.cells RES 43 (0, 0))) := ⟨by rw [HRES.out, HR'.out]; exact N0.out⟩
                  have sz : Aside0 (RES.size = 5) := ⟨by rw [HRES.out, HR'.out]; simp [nums, addH]⟩
                  have one : Aside0 (RES.all (·.oneCell') = true) := ⟨by rw [HRES.out]; simp [nums, Value.oneCell']⟩
                  have szz : Aside0 (ZZ.size = 5) := ⟨by rw [HZZ.out]; rfl⟩
                  clear N0
                  go_wp2_with (first | ((with_reducible refine gate_dst (N := 176) rfl ?_); refine load_arr 43 (.tmp 2) n 5 42 43 RES rfl rfl rfl U52.out (by rw [sz.out]; exact I52.out) N0'.out ?_) | ((with_reducible refine gate_store (t := 43) (p := 4) (v := .tmp 176) rfl ?_); refine store_arr 43 (.tmp 4) (.tmp 176) (n + 1) 43 ZZ RES rfl rfl rfl rfl rfl (by rw [sz.out]; exact I52.out) (by rw [sz.out, szz.out]) one.out Q3.out ?_))
                  have RC := setRow_heap wr (n + 1) ZZ RES 43 (0, 0) Q3.out
                  refine bodyPost_ret (v := .agg RES) ?_ rfl ⟨rfl, ?_⟩
                  · rw [results_cell rfl]
                    exact run_loadVar_row (P := Try.prog) (wr.setRow (n + 1) RES) (n + 1) 43 43 RES (0, 0) _ RC U52.out rfl (by rw [sz.out]; exact I52.out)
                  · rw [← HN.out]
                    exact below_setRow QB.out (by omega) _
end Go.Proofs.Ytgmjbnglenmlpaa.Given
end
section
/- Rows of bytes that may have been a string's: what append makes of them. -/
set_option linter.unusedSimpArgs false
set_option linter.unusedVariables false
set_option maxRecDepth 100000
set_option linter.unnecessarySimpa false
namespace Go.Proofs.Ytgmjbnglenmlpaa.Given
open Go.RowKit Go.Proofs.YtgmjbnglenmlpaaW.PrintWords
/-- A slice that lies at a block's head, the block at or beyond B, and reads as these bytes; its spare room may be written. -/
def Rw (W : World) (B : Nat) (v : Value) (xs : List Int) : Prop :=
  ∃ g c cur fr, v = .slice (some ⟨g, 0, none⟩) xs.length c ∧ B ≤ g ∧ W.heap[g]? = some (.cells cur 5 fr) ∧ (fr = (0, 0) ∨ c ≤ fr.1) ∧ cur.size = c ∧ xs.length ≤ c ∧ c ≤ maxLen ∧ cur.toList.take xs.length = nums .u8 xs
theorem cell_any {w : World} {g : Nat} {t : TypeId} {cs : Array Value} {fr : Nat × Nat} (h : w.heap[g]? = some (.cells cs t fr)) (i : Nat) : w.cell? ⟨g, i, none⟩ = cs[i]? := cell_of_row w g i cs t fr h
theorem Rw.cells {W : World} {g c : Nat} {cur : Array Value} {fr : Nat × Nat} {xs : List Int} (h : W.heap[g]? = some (.cells cur 5 fr)) (ht : cur.toList.take xs.length = nums .u8 xs) (j : Nat) (hj : j < xs.length) : W.cell? ⟨g, j, none⟩ = some (.int .u8 (xs.getD j 0)) := by
  rw [cell_any h j]
  have e : (cur.toList.take xs.length)[j]? = some (.int .u8 (xs.getD j 0)) := by
    rw [ht]
    simp [nums, hj, List.getD_eq_getElem?_getD]
  rw [List.getElem?_take_of_lt hj] at e
  simpa using e
theorem Rw.below {w0 w1 : World} {B : Nat} {v : Value} {xs : List Int} (h : Rw w0 B v xs) (hb : Below w0.heap.size w0 w1) : Rw w1 B v xs := by
  obtain ⟨g, c, cur, fr, rfl, hB, hg, hf, hs, hl, hm, ht⟩ := h
  exact ⟨g, c, cur, fr, rfl, hB, (hb.block g (blk_lt hg)).trans hg, hf, hs, hl, hm, ht⟩
theorem Rw.frozen {W : World} {g c : Nat} {cur : Array Value} {fr : Nat × Nat} (h : W.heap[g]? = some (.cells cur 5 fr)) (hf : fr = (0, 0) ∨ c ≤ fr.1) (i : Nat) (hi : i < c) : W.frozen? ⟨g, i, none⟩ = false := by
  obtain ⟨f1, f2⟩ := fr
  rcases hf with hf | hf
  · simp only [Prod.mk.injEq] at hf
    obtain ⟨rfl, rfl⟩ := hf
    simp [World.frozen?, h]
  · simp only at hf
    simp [World.frozen?, h]
    omega
theorem below_bytes {w0 w : World} {B : Nat} (h : Below B w0 w) (hB : B ≤ w.heap.size) (s : ByteArray) : Below B w0 (Lib.bytesWorld w 5 s) :=
  h.trans ⟨rfl, rfl, rfl, by rw [Lib.bytesWorld_size]; omega, fun k hk => Lib.bytesWorld_at_old w 5 s k (by omega)⟩
theorem Rw.bytes (w : World) (B : Nat) (hB : B ≤ w.heap.size) (s : ByteArray) (hs : s.size ≤ 2000000) : Rw (Lib.bytesWorld w 5 s) B (.slice (some ⟨w.heap.size, 0, none⟩) s.size (grownCap w s.size 0 5)) (sbytes s) := by
  have hge := grownCap_ge w s.size 0 5
  have hle := grownCap_le_maxLen w s.size 0 5 (by simp [maxLen]; omega)
  have hsz : (Lib.bytesCells w 5 s).size = grownCap w s.size 0 5 := by
    have e : s.data.size = s.size := rfl
    simp [Lib.bytesCells, e]
    omega
  refine ⟨w.heap.size, _, Lib.bytesCells w 5 s, _, by rw [sbytes_len], hB, Lib.bytesWorld_at_new w 5 s, .inr (by rw [hsz]; exact Nat.le_refl _), hsz, by rw [sbytes_len]; exact hge, hle, ?_⟩
  have e : s.data.size = s.size := rfl
  rw [sbytes_len]
  simp only [Lib.bytesCells, Array.toList_append, Array.toList_map]
  rw [List.take_append_of_le_length (by simp [e]), List.take_of_length_le (by simp [e])]
  simp [nums, sbytes]
section
variable {P : Program} {ops : Array Oper} {rest : List Oper} {o : Oper} {a : Act} {Q : Exit → Act → World → Prop}
theorem Rw.append {w0 W : World} (B : Nat) (hgd : o.guard = none) (s x : Operand) (t : TypeId) (ho : o.op = .call { callee := .builtin .append, args := #[s, x], argTypes := #[t, t] })
    (ht : P.underlying t = some (.slice 5)) (i : TypeInfo) (h2 : P.info? 5 = some i) (h3 : i.zero = some (.int .u8 0)) (h4 : i.size = 1) (h5 : i.bytes = 1)
    (v : Value) (xs : List Int) (d : Int) (hs : a.eval s = v) (hx : a.eval x = .slice (some ⟨W.heap.size, 0, none⟩) 1 1) (HR : Rw W B v xs) (HB : Below B w0 W) (hBs : B ≤ W.heap.size) (hlen : xs.length ≤ 2000000)
    (h : ∀ v1 w1, Rw w1 B v1 (xs ++ [d]) → Below B w0 w1 → B ≤ w1.heap.size → wpList P ops Q rest (a.put o.dst v1) w1) : wpList P ops Q (o :: rest) a (W.alloc (.cells #[.int .u8 d] 5)) := by
  obtain ⟨g, c, cur, fr, rfl, hB, hg, hf, hsz, hl, hm, hT⟩ := HR
  have hg' : (W.alloc (.cells #[.int .u8 d] 5)).heap[g]? = some (.cells cur 5 fr) := blk_alloc hg _
  have hglt := blk_lt hg
  have hB' : Below B w0 (W.alloc (.cells #[.int .u8 d] 5)) := HB.alloc hBs _
  have hnew : (W.alloc (.cells #[.int .u8 d] 5)).heap[W.heap.size]? = some (.cells #[.int .u8 d] 5 (0, 0)) := blk_new _ _
  refine wpList_append_arg _ hgd s x t ho 5 i (.int .u8 0) 1 1 ht h2 h3 h4 h5 rfl (by decide) g 0 xs.length c (nums .u8 xs) hs (by simp [nums]) ?_ ⟨W.heap.size, 0, none⟩ 1 1 [.int .u8 d] hx rfl ?_ (by simp [Value.oneCell']) ?_ (by simp [maxLen]; omega) (by omega) ?_ ?_
  · intro j u hj
    have hjl : j < xs.length := by
      have := (List.getElem?_eq_some_iff.1 hj).1
      simpa [nums] using this
    rw [Nat.zero_add, Rw.cells (c := c) hg' hT j hjl]
    simp [nums, hjl, List.getD_eq_getElem?_getD] at hj ⊢
    exact hj
  · intro j u hj
    have hj0 : j = 0 := by
      have := (List.getElem?_eq_some_iff.1 hj).1
      simpa using this
    subst hj0
    simp at hj
    subst hj
    have := cell_any hnew 0
    rw [add_plain]
    simpa using this
  · intro hroom j hj
    have hj0 : j = 0 := by simpa using hj
    subst hj0
    refine ⟨?_, ?_⟩
    · rw [Nat.zero_add, Nat.mul_one, Nat.add_zero, cell_any hg', Array.getElem?_eq_getElem (by omega)]
      rfl
    · rw [Nat.zero_add, Nat.mul_one, Nat.add_zero]
      exact Rw.frozen hg' hf _ (by omega)
  · intro hroom
    rw [Nat.zero_add, Nat.mul_one]
    have e : (W.alloc (.cells #[.int .u8 d] 5)).setCells g xs.length [.int .u8 d] = (W.alloc (.cells #[.int .u8 d] 5)).setCell ⟨g, xs.length, none⟩ (.int .u8 d) := rfl
    rw [e]
    refine h _ _ ⟨g, c, cur.setIfInBounds xs.length (.int .u8 d), fr, by rw [List.length_append]; rfl, hB, ?_, hf, by simpa using hsz, by rw [List.length_append]; exact hroom, hm, ?_⟩ (hB'.setCell hB _) (by simp; omega)
    · exact Joins.block_setCell hg' (.int .u8 d)
    · rw [List.length_append, nums_append, ← hT]
      simp only [List.length_cons, List.length_nil, Array.toList_setIfInBounds]
      rw [List.take_add_one]
      have hlt : xs.length < cur.toList.length := by simp; omega
      rw [List.take_set_of_le (Nat.le_refl _)]
      have hset := List.getElem?_set_self (a := Value.int .u8 d) hlt
      simp [nums]
      exact hset
  · intro hfull v1 w1 hown hgr
    have hsz1 : W.heap.size + 1 ≤ w1.heap.size := by have := hgr.size; simpa using this
    have hbel : Below B w0 w1 := pw_below_grown hB' none (by simp; omega) hgr (by intro k hk; cases hk)
    rcases hown.2 with ⟨rfl, hz⟩ | ⟨g', cap, cur', rfl, hb, hh, k1, k2, k3, k4⟩
    · simp [nums] at hz
    · refine h _ _ ⟨g', cap, cur', (0, 0), by rw [List.length_append]; rfl, by simp at hb; omega, hh, .inl rfl, by simpa using k3, by rw [List.length_append]; exact k1, k2, ?_⟩ hbel (by omega)
      rw [List.length_append, nums_append]
      simpa [nums] using k4
end
end Go.Proofs.Ytgmjbnglenmlpaa.Given
end
section
/- The walk of the reference's Sum: what hash.Sum answers. -/
set_option linter.unusedSimpArgs false
set_option linter.unusedVariables false
set_option maxRecDepth 100000
namespace Go.Proofs.Ytgmjbnglenmlpaa.Given
open Go.RowKit Go.Proofs.YtgmjbnglenmlpaaW.PrintWords
theorem Rw.shape {W : World} {B : Nat} {v : Value} {xs : List Int} (h : Rw W B v xs) : ∃ g c, v = .slice (some ⟨g, 0, none⟩) xs.length c := by
  obtain ⟨g, c, _, _, rfl, _⟩ := h
  exact ⟨g, c, rfl⟩
section
variable {P : Program} {ops : Array Oper} {rest : List Oper} {o : Oper} {a : Act} {Q : Exit → Act → World → Prop}
theorem conv_bytes {w0 W : World} (B : Nat) (hgd : o.guard = none) (src dst : TypeId) (x : Operand) (ho : o.op = .convert src dst x) (s : ByteArray) (hx : a.eval x = .string s) (hs : P.underlying src = some .string) (hd : P.underlying dst = some (.slice 5)) (he : P.underlying 5 = some (.int .u8))
    (HB : Below B w0 W) (hBs : B ≤ W.heap.size) (hlen : s.size ≤ 2000000)
    (h : ∀ v1 w1, Rw w1 B v1 (sbytes s) → Below B w0 w1 → B ≤ w1.heap.size → wpList P ops Q rest (a.put o.dst v1) w1) : wpList P ops Q (o :: rest) a W := by
  refine Kd.event_run hgd (v := .slice (some ⟨W.heap.size, 0, none⟩) s.size (grownCap W s.size 0 5)) (w1 := Lib.bytesWorld W 5 s) ?_ (h _ _ (Rw.bytes W B hBs s hlen) (below_bytes HB hBs s) (by rw [Lib.bytesWorld_size]; omega))
  have hrun := Lib.run_convert_string_bytes (P := P) W src dst 5 s hs hd he
  simp [execOp, ho, hx, hrun, Result.andThen]
end
theorem row_keep {w : World} {g p : Nat} (hne : g ≠ p) (cs : Array Value) : (w.setRow p cs).heap[g]? = w.heap[g]? := by
  unfold World.setRow
  rw [Array.getElem?_modify, if_neg (fun e => hne e.symm)]
theorem World.size_setRow (w : World) (p : Nat) (cs : Array Value) : (w.setRow p cs).heap.size = w.heap.size := by simp [World.setRow]
theorem padN_lt (n : Nat) : padN n ≤ n + 72 := by unfold padN; omega
theorem lbs_take (n j : Nat) (hj : j < 8) : (lbs n 8).take (j + 1) = (lbs n 8).take j ++ [lb n (7 - j)] := by
  have h : j = 0 ∨ j = 1 ∨ j = 2 ∨ j = 3 ∨ j = 4 ∨ j = 5 ∨ j = 6 ∨ j = 7 := by omega
  rcases h with rfl | rfl | rfl | rfl | rfl | rfl | rfl | rfl
  all_goals rfl
theorem padK_eq (s : ByteArray) (N n0 : Nat) (hn : n0 = s.size) (hN : N = padN s.size - 8) : ((sbytes s ++ [128]) ++ List.replicate (N - (n0 + 1)) 0) ++ lbs s.size 8 = padK (sbytes s) 8 := by
  unfold padK
  rw [sbytes_len, hn, hN, show padN s.size - s.size - 1 - 8 = padN s.size - 8 - (s.size + 1) by omega]
  simp
theorem str_app (l : List Int) (d : Int) : strOfNums l ++ strOfNums [d] = strOfNums (l ++ [d]) := by
  unfold strOfNums
  apply ByteArray.ext
  simp [ByteArray.data_append]
set_option maxHeartbeats 4000000 in
set_option maxRecDepth 100000 in
theorem rsum_calls (s : ByteArray) (w : World) (hs : s.size ≤ 1000000) : Calls Try.prog 7 #[.string s] w fun e w' => e = .returned (.string (sumB s)) ∧ Below w.heap.size w w' := by
  obtain ⟨S5, hS5⟩ : ∃ S5, S5 = sumB s := ⟨_, rfl⟩
  rw [← hS5]
  have HS5 := Aside0.mk hS5
  clear hS5
  have HS := Aside0.mk hs
  have info5 : ∃ i, Try.prog.info? 5 = some i ∧ i.zero = some (.int .u8 0) ∧ i.size = 1 ∧ i.bytes = 1 := ⟨_, rfl, rfl, rfl, rfl⟩
  obtain ⟨inf, f1, f2, f3, f4⟩ := info5
  have F1 := Aside0.mk f1
  have F2 := Aside0.mk f2
  have F3 := Aside0.mk f3
  have F4 := Aside0.mk f4
  clear f1 f2 f3 f4
  have I52 : Aside0 ((Try.prog.info? 43).map (·.size) = some 5) := ⟨by kernel_rfl⟩
  have U26 : Aside0 (Try.prog.underlying 44 = some (.slice 5)) := ⟨by kernel_rfl⟩
  have U9 : Aside0 (Try.prog.underlying 9 = some .string) := ⟨by kernel_rfl⟩
  have U5 : Aside0 (Try.prog.underlying 5 = some (.int .u8)) := ⟨by kernel_rfl⟩
  obtain ⟨gh, hgh⟩ : ∃ gh, gh = w.heap.size := ⟨_, rfl⟩
  have HGH := Aside0.mk hgh
  obtain ⟨W0, hW0⟩ : ∃ W0, W0 = w.alloc (.cells #[.int .u32 1732584193, .int .u32 4023233417, .int .u32 2562383102, .int .u32 271733878, .int .u32 3285377520] 43) := ⟨_, rfl⟩
  have HW0 := Aside0.mk hW0
  have hsz0 : W0.heap.size = gh + 1 := by rw [hW0, hgh]; simp
  have HSZ := Aside0.mk hsz0
  clear hsz0
  go_enter Try.func7, Try.ntmps7
  go_upto_region 2 with (fail)
  rw [← hgh, ← hW0]
  clear hgh hW0
  go_wp2_with (first | ((with_reducible refine gate_dst (N := 13) rfl ?_); refine conv_bytes (w0 := W0) (gh + 1) rfl 9 44 (.tmp 12) rfl s rfl U9.out U26.out U5.out (Below.refl _ _) (by rw [HSZ.out]; exact Nat.le_refl _) (by have := HS.out; omega) ?_; intro v1 w1 r1 r2 r3; have RW := Aside0.mk r1; have RB := Aside0.mk r2; have RS := Aside0.mk r3; clear r1 r2 r3) | (at_builtin; refine Rw.append (w0 := W0) (gh + 1) rfl (.tmp 13) (.tmp 14) 44 rfl U26.out inf F1.out F2.out F3.out F4.out _ (sbytes s) 128 rfl rfl RW.out RB.out RS.out (by rw [sbytes_len]; have := HS.out; omega) ?_; clear RW RB RS; intro v2 w2 r1 r2 r3; have RW := Aside0.mk r1; have RB := Aside0.mk r2; have RS := Aside0.mk r3; clear r1 r2 r3))
  obtain ⟨n0, hn0⟩ : ∃ n0, n0 = s.size := ⟨_, rfl⟩
  have HN0 := Aside0.mk hn0
  obtain ⟨T, hT⟩ : ∃ T, T = padN s.size - 8 := ⟨_, rfl⟩
  obtain ⟨q, hq⟩ : ∃ q, q = (s.size + 8) / 64 + 1 := ⟨_, rfl⟩
  have hpn : padN s.size = 64 * q := by rw [hq]; unfold padN; omega
  have hge := padN_ge s.size
  have hlt := padN_lt s.size
  have hTq : T + 8 = 64 * q := by omega
  have hT1 : n0 + 1 ≤ T := by omega
  have hT2 : T ≤ n0 + 64 := by omega
  have hn1 : n0 ≤ 1000000 := by rw [hn0]; exact HS.out
  have HQ := Aside0.mk hq
  have HT := Aside0.mk hT
  obtain ⟨base, hbase⟩ : ∃ b, b = sbytes s ++ [128] := ⟨_, rfl⟩
  have hbl : base.length = n0 + 1 := by rw [hbase, hn0, List.length_append, sbytes_len]; rfl
  rw [← hbase] at RW
  have HBASE := Aside0.mk hbase
  have HBL := Aside0.mk hbl
  clear hbase hq hT hge hlt hpn hn0 hbl
  obtain ⟨g2, c2, hv2⟩ := Rw.shape RW.out
  rw [HBL.out] at hv2
  rw [hv2] at RW ⊢
  clear hv2
  go_loopw [4] (fun v4 wr => ∃ N g c : Nat, n0 + 1 ≤ N ∧ N ≤ T ∧ v4 = .slice (some ⟨g, 0, none⟩) N c ∧ Aside0 (Rw wr (gh + 1) (.slice (some ⟨g, 0, none⟩) N c) (base ++ List.replicate (N - (n0 + 1)) 0)) ∧ Aside0 (Below (gh + 1) W0 wr) ∧ Aside0 (gh + 1 ≤ wr.heap.size)) (fun v4 _ => match v4 with | .slice _ n _ => T - n | _ => 0)
  case atStart => exact ⟨n0 + 1, g2, c2, by omega, by omega, rfl, ⟨by rw [Nat.sub_self, List.replicate_zero, List.append_nil]; exact RW.out⟩, RB, RS⟩
  case round =>
    clear RW RB RS
    obtain ⟨N, g, c, hN1, hN2, rfl, RW, RB, RS⟩ := hrel
    have hlen : (base ++ List.replicate (N - (n0 + 1)) 0).length = N := by rw [List.length_append, HBL.out, List.length_replicate]; omega
    have HLEN := Aside0.mk hlen
    clear hlen
    by_cases hNT : N = T
    · have hz : (((N : Nat) : Int) % 64 == 56) = true := by simp; omega
      have hz2 : (((N : Nat) : Int) % 64 != 56) = false := by simp; omega
      go_wp2
      clear hz hz2
      rename (_ != _) = false => hsp
      clear hsp
      subst hNT
      have HTQ := Aside0.mk hTq
      clear hTq
      obtain ⟨b2, hb2⟩ : ∃ b, b = base ++ List.replicate (N - (n0 + 1)) 0 := ⟨_, rfl⟩
      rw [← hb2] at RW HLEN
      have HB2 := Aside0.mk hb2
      clear hb2
      go_loopw [4, 5] (fun v4 v5 wr => ∃ j g c : Nat, j ≤ 8 ∧ v5 = .int .i64 (7 - (j : Int)) ∧ v4 = .slice (some ⟨g, 0, none⟩) (N + j) c ∧ Aside0 (Rw wr (gh + 1) (.slice (some ⟨g, 0, none⟩) (N + j) c) (b2 ++ (lbs s.size 8).take j)) ∧ Aside0 (Below (gh + 1) W0 wr) ∧ Aside0 (gh + 1 ≤ wr.heap.size)) (fun _ v5 _ => (intOf v5 + 1).toNat)
      case atStart => exact ⟨0, g, c, by omega, rfl, rfl, ⟨by rw [List.take_zero, List.append_nil]; exact RW.out⟩, RB, RS⟩
      case round =>
        clear RW RB RS
        obtain ⟨j, g, c, hj, rfl, rfl, RW, RB, RS⟩ := hrel
        have hlen2 : (b2 ++ (lbs s.size 8).take j).length = N + j := by rw [List.length_append, HLEN.out, List.length_take, lbs_len]; omega
        have HLEN2 := Aside0.mk hlen2
        clear hlen2
        by_cases hj8 : j < 8
        · have p0 : (0 : Int) ≤ 7 - (j : Int) := by omega
          have p1 : (0 : Int) ≤ 8 * (7 - (j : Int)) := by omega
          have pt : (8 * (7 - (j : Int))).toNat = 8 * (7 - j) := by omega
          have hval : 8 * (s.size : Int) / 2 ^ (8 * (7 - j)) % 256 = lb s.size (7 - j) := by unfold lb; rw [Int.mul_comm]
          have HVAL := Aside0.mk hval
          clear hval
          have hNle : N ≤ 1000100 := by omega
          go_wp2_with (at_builtin; refine Rw.append (w0 := W0) (gh + 1) rfl (.tmp 27) (.tmp 37) 44 rfl U26.out inf F1.out F2.out F3.out F4.out _ (b2 ++ (lbs s.size 8).take j) (8 * (s.size : Int) / 2 ^ (8 * (7 - j)) % 256) rfl rfl RW.out RB.out RS.out (by rw [HLEN2.out]; omega) ?_; clear RW RB RS; intro v2 w2 r1 r2 r3; have RW := Aside0.mk r1; have RB := Aside0.mk r2; have RS := Aside0.mk r3; clear r1 r2 r3)
          obtain ⟨g3, c3, hv2⟩ := Rw.shape RW.out
          rw [List.length_append, HLEN2.out] at hv2
          rw [hv2] at RW ⊢
          clear hv2
          go_roundw
          case rel => exact ⟨j + 1, g3, c3, by omega, by go_num, rfl, ⟨by rw [lbs_take _ _ hj8, ← List.append_assoc, ← HVAL.out]; exact RW.out⟩, RB, RS⟩
          case measure => simp [intOf]; omega
        · have hj8' : j = 8 := by omega
          subst hj8'
          obtain ⟨L, hL⟩ : ∃ L, L = padK (sbytes s) 8 := ⟨_, rfl⟩
          have RW' : Aside0 (Rw wr (gh + 1) (.slice (some ⟨g, 0, none⟩) (N + 8) c) L) := ⟨by
            have h := RW.out
            rw [List.take_of_length_le (by rw [lbs_len]; omega), HB2.out, HBASE.out, padK_eq s N n0 HN0.out HT.out] at h
            rw [hL]
            exact h⟩
          have HL := Aside0.mk hL
          clear hL RW
          rw [show N + 8 = 64 * q from HTQ.out] at RW' ⊢
          go_wp2
          rw [show (7 - ((8 : Nat) : Int)) = -1 from rfl]
          obtain ⟨c', cur, fr, hv, hB, hg, hf, hsz, hl, hm, ht⟩ : ∃ c' cur fr, c' = c ∧ gh + 1 ≤ g ∧ wr.heap[g]? = some (.cells cur 5 fr) ∧ (fr = (0, 0) ∨ c ≤ fr.1) ∧ cur.size = c ∧ 64 * q ≤ c ∧ c ≤ maxLen ∧ cur.toList.take (64 * q) = nums .u8 L := by
            obtain ⟨g', c', cur, fr, hv, h1, h2, h3, h4, h5, h6, h7⟩ := RW'.out
            injection hv with e1 e2 e3
            injection e1 with e1
            injection e1 with e1
            subst e1 e3
            rw [← e2] at h5 h7
            exact ⟨c, cur, fr, rfl, h1, h2, h3, h4, h5, h6, h7⟩
          have hLl : L.length = 64 * q := by
            obtain ⟨g', c', cur, fr, hv, _⟩ := RW'.out
            injection hv with _ e2 _
            exact e2.symm
          have CEL : Aside0 (∀ j, j < 64 * q → wr.cell? ⟨g, j, none⟩ = some (.int .u8 (L.getD j 0))) := ⟨fun j hj => Rw.cells (c := c) hg (by rw [hLl]; exact ht) j (by rw [hLl]; exact hj)⟩
          have GLT : Aside0 (g < wr.heap.size) := ⟨blk_lt hg⟩
          have G0 : Aside0 (wr.heap[gh]? = some (.cells (nums .u32 (fold L 0)).toArray 43 (0, 0))) := ⟨by
            rw [RB.out.block gh (by omega), HW0.out, HGH.out]
            exact blk_new _ _⟩
          have GB : Aside0 (Below gh w wr) := ⟨by
            have h1 : Below gh w W0 := by rw [HW0.out, HGH.out]; exact below_alloc (Below.refl _ _) _
            exact ⟨RB.out.os.trans h1.os, RB.out.tape.trans h1.tape, RB.out.output.trans h1.output, Nat.le_trans h1.size RB.out.size, fun k hk => (RB.out.block k (by omega)).trans (h1.block k hk)⟩⟩
          have hgg : gh < g := by omega
          have hmax : c ≤ 9223372036854775807 := by simpa [maxLen] using hm
          clear hv hB hg hf hsz hm ht RW' RB RS
          go_loopw [6] (fun v6 wr => ∃ m : Nat, m ≤ q ∧ v6 = .int .i64 ((64 * m : Nat) : Int) ∧ Aside0 (wr.heap[gh]? = some (.cells (nums .u32 (fold L m)).toArray 43 (0, 0))) ∧ Aside0 (∀ j, j < 64 * q → wr.cell? ⟨g, j, none⟩ = some (.int .u8 (L.getD j 0))) ∧ Aside0 (g < wr.heap.size) ∧ Aside0 (Below gh w wr)) (fun v6 _ => 64 * q - (intOf v6).toNat)
          case atStart => exact ⟨0, by omega, rfl, G0, CEL, GLT, GB⟩
          case round =>
            clear G0 CEL GLT GB
            obtain ⟨m, hm, rfl, G0, CEL, GLT, GB⟩ := hrel
            obtain ⟨J, hJ⟩ : ∃ J, J = 64 * m := ⟨_, rfl⟩
            rw [← hJ]
            obtain ⟨a, b, cc, d, e, hfo⟩ := fold5 L m
            have HF := Aside0.mk hfo
            clear hfo
            have R0' : Aside0 (wr.heap[gh]? = some (.cells (nums .u32 [a, b, cc, d, e]).toArray 43 (0, 0))) := ⟨by rw [← HF.out]; exact G0.out⟩
            by_cases hmq : m < q
            · have x0 := nums_cell R0'.out 0 (by simp)
              have x1 := nums_cell R0'.out 1 (by simp)
              have x2 := nums_cell R0'.out 2 (by simp)
              have x3 := nums_cell R0'.out 3 (by simp)
              have x4 := nums_cell R0'.out 4 (by simp)
              have p0 : (0 : Int) ≤ (J : Int) := by omega
              have p1 : (0 : Int) ≤ (J : Int) + 64 := by omega
              have p2 : (J : Int) ≤ (J : Int) + 64 := by omega
              have p3 : (J : Int) + 64 ≤ (c : Int) := by omega
              have p4 : (J : Int) < ((64 * q : Nat) : Int) := by omega
              have pt : ((J : Int) + 64).toNat = J + 64 := by omega
              have pc : ¬ (c = J) := by omega
              have pc2 : ¬ (J = c) := by omega
              have pe : J + 64 - J = 64 := by omega
              have HJ := Aside0.mk hJ
              clear hJ
              go_wp2
              have w0 : IntKind.i64.wrap ((J : Int) + 64) = (J : Int) + 64 := IntWalk.i64_in _ (by omega)
              go_still_tail 6, (by kernel_rfl)
              change wpList _ _ _ _ _ wr.drew
              clear w0 p0 p1 p2 p3 p4 pt pc pc2 pe x0 x1 x2 x3 x4
              have G0' := Aside0.mk (blk_drew R0'.out)
              have BC : Aside0 (∀ j, j < 64 → wr.drew.cell? ⟨g, J + j, none⟩ = some (.int .u8 ((blkOf L m).getD j 0))) := ⟨fun j hj => by
                rw [blkOf_at L m j hj, HJ.out]
                exact CEL.out _ (by omega)⟩
              have CEL' : Aside0 (∀ j, j < 64 * q → wr.drew.cell? ⟨g, j, none⟩ = some (.int .u8 (L.getD j 0))) := ⟨CEL.out⟩
              have GLT' : Aside0 (g < wr.drew.heap.size) := ⟨GLT.out⟩
              have GB' := Aside0.mk (below_drew GB.out)
              clear R0' G0 CEL GLT GB
              generalize wr.drew = w4 at G0' BC CEL' GLT' GB' ⊢
              obtain ⟨C, hC⟩ : ∃ C, C = (nums .u32 (comp [a, b, cc, d, e] (blkOf L m))).toArray := ⟨_, rfl⟩
              have HC := Aside0.mk hC
              clear hC
              have szC : Aside0 (C.size = 5) := ⟨by rw [HC.out]; simp [nums, comp, addH]⟩
              have oneC : Aside0 (C.all (·.oneCell') = true) := ⟨by rw [HC.out]; simp [nums, Value.oneCell']⟩
              go_wp2_with (first | (go_at_call 21; refine (block_calls a b cc d e (blkOf L m) g J _ _ BC.out).mono ?_; rintro e' w5 ⟨rfl, hb⟩; rw [← HC.out]; have WB := Aside0.mk hb; clear hb; have G5 : Aside0 (w5.heap[gh]? = some (.cells (nums .u32 [a, b, cc, d, e]).toArray 43 (0, 0))) := ⟨(WB.out.block gh (blk_lt G0'.out)).trans G0'.out⟩) | ((with_reducible refine gate_store (t := 43) (p := 3) (v := .tmp 51) rfl ?_); refine store_arr 43 (.tmp 3) (.tmp 51) gh 43 _ C rfl rfl rfl rfl rfl (by rw [szC.out]; exact I52.out) (by rw [szC.out]; simp [nums]) oneC.out G5.out ?_))
              go_roundw
              case rel => exact ⟨m + 1, by omega, by rw [HJ.out]; go_num, ⟨by show (w5.setRow gh C).heap[gh]? = some (Obj.cells (nums .u32 (comp (fold L m) (blkOf L m))).toArray 43 (0, 0)); rw [HF.out, ← HC.out]; exact setRow_heap _ _ _ _ _ _ G5.out⟩, ⟨fun j hj => by
                have h1 := CEL'.out j hj
                rw [← h1, World.cell?_of_block (a := ⟨g, j, none⟩) (row_keep (w := w5) (g := g) (p := gh) (by omega) C)]
                exact WB.out.cell (p := ⟨g, j, none⟩) GLT'.out⟩, ⟨by rw [World.size_setRow]; exact Nat.lt_of_lt_of_le GLT'.out WB.out.size⟩, ⟨below_setRow (GB'.out.trans ⟨WB.out.os, WB.out.tape, WB.out.output, WB.out.size, fun k hk => WB.out.block k (Nat.lt_trans hk (blk_lt G0'.out))⟩) (Nat.le_refl _) _⟩⟩
              case measure => simp [intOf]; omega
            · have hmq' : m = q := by omega
              subst hmq'
              subst hJ
              have x0 := nums_cell R0'.out 0 (by simp)
              have x1 := nums_cell R0'.out 1 (by simp)
              have x2 := nums_cell R0'.out 2 (by simp)
              have x3 := nums_cell R0'.out 3 (by simp)
              have x4 := nums_cell R0'.out 4 (by simp)
              go_wp2
              clear x0 x1 x2 x3 x4 R0' G0 CEL GLT
              go_loopw [7, 53] (fun v7 v53 ws => ∃ k : Nat, k ≤ 5 ∧ v53 = .int .i64 (k : Int) ∧ v7 = .string (strOfNums (hexs [a, b, cc, d, e] k)) ∧ Aside0 (Below gh w ws)) (fun _ v53 _ => 5 - (intOf v53).toNat)
              case atStart => exact ⟨0, by omega, rfl, rfl, GB⟩
              case round =>
                clear GB
                obtain ⟨k, hk, rfl, rfl, GB⟩ := hrel
                obtain ⟨O, hO⟩ : ∃ O, O = strOfNums (hexs [a, b, cc, d, e] k) := ⟨_, rfl⟩
                rw [← hO]
                have HO := Aside0.mk hO
                clear hO
                by_cases hk5 : k < 5
                · have gi : ∀ w : World, (Instr.index 43 (.agg #[.int .u32 a, .int .u32 b, .int .u32 cc, .int .u32 d, .int .u32 e]) (.int .i64 (k : Int))).run Try.prog w = .ok (.int .u32 ([a, b, cc, d, e].getD k 0)) w := by
                    have h5 : k = 0 ∨ k = 1 ∨ k = 2 ∨ k = 3 ∨ k = 4 := by omega
                    rcases h5 with rfl | rfl | rfl | rfl | rfl
                    all_goals exact fun _ => by kernel_rfl
                  obtain ⟨x, hx⟩ : ∃ x, x = [a, b, cc, d, e].getD k 0 := ⟨_, rfl⟩
                  rw [← hx] at gi
                  have HX := Aside0.mk hx
                  clear hx
                  go_wp2
                  have hkd : decide ((k : Int) < 5) = true := by simp; omega
                  rw [hkd]
                  clear hkd
                  go_loopw [7, 10] (fun v7 v10 ws => ∃ j : Nat, j ≤ 8 ∧ v10 = .int .i64 (28 - 4 * (j : Int)) ∧ v7 = .string (strOfNums (hexs [a, b, cc, d, e] k ++ hexw x j)) ∧ Aside0 (Below gh w ws)) (fun _ v10 _ => (intOf v10 + 4).toNat)
                  case atStart => exact ⟨0, by omega, rfl, by rw [hexw, List.append_nil, HO.out], GB⟩
                  case round =>
                    clear GB
                    obtain ⟨j, hj, rfl, rfl, GB⟩ := hrel
                    by_cases hj8 : j < 8
                    · have p0 : (0 : Int) ≤ 28 - 4 * (j : Int) := by omega
                      have pt : (28 - 4 * (j : Int)).toNat = 28 - 4 * j := by omega
                      have pj : 0 ≤ bits .and .u32 (x / 2 ^ (28 - 4 * j)) 15 ∧ bits .and .u32 (x / 2 ^ (28 - 4 * j)) 15 < 16 := by
                        have hr := fold_range L m k
                        rw [HF.out, ← HX.out] at hr
                        exact nib_range x hr.1 hr.2 _
                      have pj0 := pj.1
                      have pj1 := pj.2
                      clear pj
                      have hbt : ∀ h, (((⟨#[48, 49, 50, 51, 52, 53, 54, 55, 56, 57, 97, 98, 99, 100, 101, 102]⟩ : ByteArray)[(bits .and .u32 (x / 2 ^ (28 - 4 * j)) 15).toNat]'h).toNat : Int) = hexd x (28 - 4 * j) := bt_at HEX _
                      obtain ⟨D, hD⟩ : ∃ D, D = strOfNums [hexd x (28 - 4 * j)] := ⟨_, rfl⟩
                      have hcv : ∀ W : World, (convert 44 9 (.slice (some ⟨W.heap.size, 0, none⟩) 1 1)).run Try.prog (W.alloc (.cells #[.int .u8 (hexd x (28 - 4 * j))] 5)) = .ok (.string D) (W.alloc (.cells #[.int .u8 (hexd x (28 - 4 * j))] 5)) := fun W => by
                        rw [hD]
                        exact own_string (e := 5) (base := 0) (e' := 5) (by kernel_rfl) (by kernel_rfl) (by kernel_rfl) (World.ownsRow_lit W #[.int .u8 (hexd x (28 - 4 * j))] 1 (Nat.zero_le _) (by simp [maxLen]) rfl)
                      have HD := Aside0.mk hD
                      obtain ⟨O2, hO2⟩ : ∃ O2, O2 = strOfNums (hexs [a, b, cc, d, e] k ++ hexw x j) := ⟨_, rfl⟩
                      have hsum : O2.size + D.size ≤ 9223372036854775807 := by
                        have e1 : ∀ l, (strOfNums l).size = l.length := fun l => by simp [strOfNums, ByteArray.size]
                        rw [hO2, hD, e1, e1, List.length_append, hexs_len, hexw_len]
                        simp
                        omega
                      rw [← hO2]
                      have HO2 := Aside0.mk hO2
                      have hb3 : (9223372036854775807 < O2.size + D.size) = False := eq_false (by omega)
                      clear hO2 hD hsum
                      have hgw : gh ≤ wr.heap.size := by have := GB.out.size; rw [← HGH.out] at this; exact this
                      have HGW := Aside0.mk hgw
                      clear hgw
                      go_wp2
                      go_roundw
                      case rel => exact ⟨j + 1, by omega, by go_num, by rw [hexw, ← List.append_assoc, ← str_app, ← HO2.out, ← HD.out], ⟨GB.out.alloc HGW.out _⟩⟩
                      case measure => simp [intOf]; omega
                    · have hj8' : j = 8 := by omega
                      subst hj8'
                      go_wp2
                      go_roundw
                      case rel => exact ⟨k + 1, by omega, by go_num, by rw [hexs, ← HX.out], GB⟩
                      case measure => simp [intOf]; omega
                · have hk5' : k = 5 := by omega
                  subst hk5'
                  go_wp2
                  go_ret
                  refine ⟨?_, by rw [← HGH.out]; exact GB.out⟩
                  rw [HS5.out]
                  unfold sumB
                  rw [← HL.out, ← HQ.out, HF.out, ← HO.out]
                  rfl
    · have hz : (((N : Nat) : Int) % 64 == 56) = false := by simp; omega
      have hz2 : (((N : Nat) : Int) % 64 != 56) = true := by simp; omega
      have hNle : N ≤ 1000100 := by omega
      go_wp2_with (at_builtin; refine Rw.append (w0 := W0) (gh + 1) rfl (.tmp 20) (.tmp 21) 44 rfl U26.out inf F1.out F2.out F3.out F4.out _ (base ++ List.replicate (N - (n0 + 1)) 0) 0 rfl rfl RW.out RB.out RS.out (by rw [HLEN.out]; omega) ?_; clear RW RB RS; intro v2 w2 r1 r2 r3; have RW := Aside0.mk r1; have RB := Aside0.mk r2; have RS := Aside0.mk r3; clear r1 r2 r3)
      obtain ⟨g3, c3, hv2⟩ := Rw.shape RW.out
      rw [List.length_append, HLEN.out] at hv2
      rw [hv2] at RW ⊢
      clear hv2
      go_roundw
      case rel => exact ⟨N + 1, g3, c3, by omega, by omega, rfl, ⟨by rw [show N + 1 - (n0 + 1) = (N - (n0 + 1)) + 1 by omega, List.replicate_succ', ← List.append_assoc]; exact RW.out⟩, RB, RS⟩
      case measure => simp; omega
end Go.Proofs.Ytgmjbnglenmlpaa.Given
end
