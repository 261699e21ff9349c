/- The walk of the reference's block: what hash.take takes in. -/
import Derived.Test.YtcjkichimndioabHs3
set_option linter.unusedSimpArgs false
set_option linter.unusedVariables false
namespace Go.Proofs.Ytcjkichimndioab.Given
open Go.RowKit Go.Proofs.YtcjkichimndioabW.PrintWords
theorem row_far {w : World} {g p : Nat} {o : Obj} (h : w.heap[g]? = some o) (hne : g ≠ p) (cs : Array Value) : (w.setRow p cs).heap[g]? = some o := by
  unfold World.setRow
  rw [Array.getElem?_modify, if_neg (fun e => hne e.symm)]
  exact h
theorem turn1 (x : Int) (w : World) : Calls Try.prog 45 #[.int .u32 x, .int .u64 1] w fun e w' => e = .returned (.int .u32 (rotl x 1)) ∧ w' = w := by
  go_enter Try.func45, Try.ntmps45
  go_wp2
  go_ret
  exact ⟨rfl, rfl⟩
theorem turn5 (x : Int) (w : World) : Calls Try.prog 45 #[.int .u32 x, .int .u64 5] w fun e w' => e = .returned (.int .u32 (rotl x 5)) ∧ w' = w := by
  go_enter Try.func45, Try.ntmps45
  go_wp2
  go_ret
  exact ⟨rfl, rfl⟩
theorem turn30 (x : Int) (w : World) : Calls Try.prog 45 #[.int .u32 x, .int .u64 30] w fun e w' => e = .returned (.int .u32 (rotl x 30)) ∧ w' = w := by
  go_enter Try.func45, Try.ntmps45
  go_wp2
  go_ret
  exact ⟨rfl, rfl⟩
set_option maxHeartbeats 4000000 in
set_option maxRecDepth 100000 in
theorem block_calls (h0 h1 h2 h3 h4 : Int) (l : List Int) (g off c : Nat) (w : World) (hb : ∀ j, j < 64 → w.cell? ⟨g, off + j, none⟩ = some (.int .u8 (l.getD j 0))) :
    Calls Try.prog 32 #[.agg #[.int .u32 h0, .int .u32 h1, .int .u32 h2, .int .u32 h3, .int .u32 h4], .slice (some ⟨g, off, none⟩) 64 c] w fun e w' => e = .returned (.agg (nums .u32 (comp [h0, h1, h2, h3, h4] l)).toArray) ∧ Below w.heap.size w w' := by
  obtain ⟨RES, hRES⟩ : ∃ R, R = (nums .u32 (comp [h0, h1, h2, h3, h4] l)).toArray := ⟨_, rfl⟩
  rw [← hRES]
  have HRES := Aside0.mk hRES
  clear hRES
  have HB := Aside0.mk hb
  have U : Aside0 (Try.prog.underlying 68 = some (.array 80 51)) := ⟨by kernel_rfl⟩
  have U52 : Aside0 (Try.prog.underlying 52 = some (.array 5 51)) := ⟨by kernel_rfl⟩
  have I : Aside0 ((Try.prog.info? 51).map (·.size) = some 1) := ⟨by kernel_rfl⟩
  have I52 : Aside0 ((Try.prog.info? 52).map (·.size) = some 5) := ⟨by kernel_rfl⟩
  clear hb
  obtain ⟨Z, hZ⟩ : ∃ Z, Z = (nums .u32 (List.replicate 80 0)).toArray := ⟨_, rfl⟩
  have hz : ∀ w, (zeroValue 68).run Try.prog w = .ok (.agg Z) w := by rw [hZ]; exact fun _ => by kernel_rfl
  have HZ := Aside0.mk hZ
  clear hZ
  go_enter Try.func32, Try.ntmps32
  go_wp2
  obtain ⟨n, hn⟩ : ∃ n, n = w.heap.size := ⟨_, rfl⟩
  obtain ⟨HH, hHH⟩ : ∃ H : Array Value, H = #[.int .u32 h0, .int .u32 h1, .int .u32 h2, .int .u32 h3, .int .u32 h4] := ⟨_, rfl⟩
  obtain ⟨ZZ, hZZ⟩ : ∃ H : Array Value, H = #[.int .u32 0, .int .u32 0, .int .u32 0, .int .u32 0, .int .u32 0] := ⟨_, rfl⟩
  have A0 : Aside0 ((((w.alloc (Obj.cells #[.int .u32 h0, .int .u32 h1, .int .u32 h2, .int .u32 h3, .int .u32 h4] 52)).alloc (Obj.cells #[.int .u32 0, .int .u32 0, .int .u32 0, .int .u32 0, .int .u32 0] 52)).alloc (Obj.cells Z 68)).heap[n]? = some (.cells HH 52 (0, 0))) := ⟨by rw [hn, hHH]; exact blk_alloc (blk_alloc (blk_new _ _) _) _⟩
  have A3 : Aside0 ((((w.alloc (Obj.cells #[.int .u32 h0, .int .u32 h1, .int .u32 h2, .int .u32 h3, .int .u32 h4] 52)).alloc (Obj.cells #[.int .u32 0, .int .u32 0, .int .u32 0, .int .u32 0, .int .u32 0] 52)).alloc (Obj.cells Z 68)).heap[n + 1]? = some (.cells ZZ 52 (0, 0))) := ⟨by
    rw [hn, hZZ]
    have := blk_new (w.alloc (Obj.cells #[.int .u32 h0, .int .u32 h1, .int .u32 h2, .int .u32 h3, .int .u32 h4] 52)) (Obj.cells #[.int .u32 0, .int .u32 0, .int .u32 0, .int .u32 0, .int .u32 0] 52)
    rw [World.size_alloc] at this
    exact blk_alloc this _⟩
  have A1 : Aside0 ((((w.alloc (Obj.cells #[.int .u32 h0, .int .u32 h1, .int .u32 h2, .int .u32 h3, .int .u32 h4] 52)).alloc (Obj.cells #[.int .u32 0, .int .u32 0, .int .u32 0, .int .u32 0, .int .u32 0] 52)).alloc (Obj.cells Z 68)).heap[n + 2]? = some (.cells (nums .u32 (W16 l 0)).toArray 68 (0, 0))) := ⟨by
    rw [hn]
    have := blk_new ((w.alloc (Obj.cells #[.int .u32 h0, .int .u32 h1, .int .u32 h2, .int .u32 h3, .int .u32 h4] 52)).alloc (Obj.cells #[.int .u32 0, .int .u32 0, .int .u32 0, .int .u32 0, .int .u32 0] 52)) (Obj.cells Z 68)
    rw [World.size_alloc, World.size_alloc, HZ.out] at this
    rw [HZ.out]
    simpa [W16] using this⟩
  have A2 : Aside0 (Below n w (((w.alloc (Obj.cells #[.int .u32 h0, .int .u32 h1, .int .u32 h2, .int .u32 h3, .int .u32 h4] 52)).alloc (Obj.cells #[.int .u32 0, .int .u32 0, .int .u32 0, .int .u32 0, .int .u32 0] 52)).alloc (Obj.cells Z 68))) := ⟨by rw [hn]; exact below_alloc (below_alloc (below_alloc (Below.refl _ _) _) _) _⟩
  generalize ((w.alloc (Obj.cells #[.int .u32 h0, .int .u32 h1, .int .u32 h2, .int .u32 h3, .int .u32 h4] 52)).alloc (Obj.cells #[.int .u32 0, .int .u32 0, .int .u32 0, .int .u32 0, .int .u32 0] 52)).alloc (Obj.cells Z 68) = W at A0 A1 A2 A3 ⊢
  rw [← hn, show n + 1 + 1 = n + 2 from rfl]
  have HN := Aside0.mk hn
  have HHH := Aside0.mk hHH
  have HZZ := Aside0.mk hZZ
  clear hn hHH hZZ
  go_loopw [14] (fun v6 wr => ∃ k : Nat, k ≤ 16 ∧ v6 = .int .i64 k ∧ Aside0 (wr.heap[n + 2]? = some (.cells (nums .u32 (W16 l k)).toArray 68 (0, 0))) ∧ Aside0 (wr.heap[n]? = some (.cells HH 52 (0, 0))) ∧ Aside0 (wr.heap[n + 1]? = some (.cells ZZ 52 (0, 0))) ∧ Aside0 (Below n w wr)) (fun v6 _ => 16 - (intOf v6).toNat)
  case atStart => exact ⟨0, by omega, rfl, A1, A0, A3, A2⟩
  case round =>
    obtain ⟨k, hk, rfl, R1, R0, R3, RB⟩ := hrel
    by_cases hlt : k < 16
    · have ix := arr_index U.out I.out (n + 2) k .i64 (k : Int) rfl (by omega)
      have hcell : ∀ j, j < 64 → wr.cell? ⟨g, off + j, none⟩ = some (.int .u8 (l.getD j 0)) := fun j hj => by
        have h1 := HB.out j hj
        have h2 := World.block_lt_of_cell? w _ h1
        rw [← HN.out] at h2
        exact (RB.out.cell h2).trans h1
      have c0 := hcell (4 * k) (by omega)
      have c1 := hcell (4 * k + 1) (by omega)
      have c2 := hcell (4 * k + 2) (by omega)
      have c3 := hcell (4 * k + 3) (by omega)
      obtain ⟨x0, hx0⟩ : ∃ x, x = l.getD (4 * k) 0 := ⟨_, rfl⟩
      obtain ⟨x1, hx1⟩ : ∃ x, x = l.getD (4 * k + 1) 0 := ⟨_, rfl⟩
      obtain ⟨x2, hx2⟩ : ∃ x, x = l.getD (4 * k + 2) 0 := ⟨_, rfl⟩
      obtain ⟨x3, hx3⟩ : ∃ x, x = l.getD (4 * k + 3) 0 := ⟨_, rfl⟩
      rw [← hx0] at c0
      rw [← hx1] at c1
      rw [← hx2] at c2
      rw [← hx3] at c3
      have HX0 := Aside0.mk hx0
      have HX1 := Aside0.mk hx1
      have HX2 := Aside0.mk hx2
      have HX3 := Aside0.mk hx3
      clear hx0 hx1 hx2 hx3 hcell
      have fz : wr.frozen? ⟨n + 2, k, none⟩ = false := blk_frozen R1.out k
      have p0 : (0 : Int) ≤ 4 * (k : Int) := by omega
      have p1 : (0 : Int) ≤ 4 * (k : Int) + 1 := by omega
      have p2 : (0 : Int) ≤ 4 * (k : Int) + 2 := by omega
      have p3 : (0 : Int) ≤ 4 * (k : Int) + 3 := by omega
      have q0 : 4 * (k : Int) < 64 := by omega
      have q1 : 4 * (k : Int) + 1 < 64 := by omega
      have q2 : 4 * (k : Int) + 2 < 64 := by omega
      have q3 : 4 * (k : Int) + 3 < 64 := by omega
      have t0 : (4 * (k : Int)).toNat = 4 * k := by omega
      have t1 : (4 * (k : Int) + 1).toNat = 4 * k + 1 := by omega
      have t2 : (4 * (k : Int) + 2).toNat = 4 * k + 2 := by omega
      have t3 : (4 * (k : Int) + 3).toNat = 4 * k + 3 := by omega
      go_wp2
      have w0 : IntKind.i64.wrap (4 * (k : Int)) = 4 * (k : Int) := IntWalk.i64_in _ (by omega)
      have w1 : IntKind.i64.wrap (4 * (k : Int) + 1) = 4 * (k : Int) + 1 := IntWalk.i64_in _ (by omega)
      have w2 : IntKind.i64.wrap (4 * (k : Int) + 2) = 4 * (k : Int) + 2 := IntWalk.i64_in _ (by omega)
      have w3 : IntKind.i64.wrap (4 * (k : Int) + 3) = 4 * (k : Int) + 3 := IntWalk.i64_in _ (by omega)
      go_still_tail 35, (by kernel_rfl)
      change wpList _ _ _ _ _ wr.drew
      clear w0 w1 w2 w3 t0 t1 t2 t3 p0 p1 p2 p3 q0 q1 q2 q3
      generalize hy : bits BinOp.or IntKind.u32 (bits .or .u32 (bits .or .u32 (IntKind.u32.wrap (IntKind.u32.wrap x0 * 16777216)) (IntKind.u32.wrap (IntKind.u32.wrap x1 * 65536))) (IntKind.u32.wrap (IntKind.u32.wrap x2 * 256))) (IntKind.u32.wrap x3) = y
      have HY : Aside0 (word l k = y) := ⟨by unfold word wd; rw [← HX0.out, ← HX1.out, ← HX2.out, ← HX3.out]; exact hy⟩
      clear hy c0 c1 c2 c3
      have R1' := Aside0.mk (blk_drew R1.out)
      have R0' := Aside0.mk (blk_drew R0.out)
      have R3' := Aside0.mk (blk_drew R3.out)
      have RB' := Aside0.mk (below_drew RB.out)
      have fz' : wr.drew.frozen? ⟨n + 2, k, none⟩ = false := blk_frozen R1'.out k
      clear R1 R0 R3 RB fz
      generalize wr.drew = w4 at R1' R0' R3' RB' fz' ⊢
      obtain ⟨v0, cw⟩ : ∃ v, w4.cell? ⟨n + 2, k, none⟩ = some v := ⟨_, by rw [blk_cell R1'.out]; exact Array.getElem?_eq_getElem (by simp [nums, W16]; omega)⟩
      go_wp2
      go_roundw
      case rel => exact ⟨k + 1, by omega, by go_num, ⟨by rw [← HY.out]; exact blk_put R1'.out k _ (W16_next l k (by omega))⟩, ⟨blk_far R0'.out (by simp) _⟩, ⟨blk_far R3'.out (by simp) _⟩, ⟨RB'.out.setCell (by simp) _⟩⟩
      case measure => simp [intOf]; omega
    · have hk16 : k = 16 := by omega
      subst hk16
      have R1' : Aside0 (wr.heap[n + 2]? = some (.cells (nums .u32 (W80 l 0)).toArray 68 (0, 0))) := R1
      clear R1
      go_wp2
      rw [show ((16 : Nat) : Int) = 16 from rfl]
      go_loopw [7] (fun v5 w5 => ∃ j : Nat, 16 ≤ j ∧ j ≤ 80 ∧ v5 = .int .i64 (j : Int) ∧ Aside0 (w5.heap[n + 2]? = some (.cells (nums .u32 (W80 l (j - 16))).toArray 68 (0, 0))) ∧ Aside0 (w5.heap[n]? = some (.cells HH 52 (0, 0))) ∧ Aside0 (w5.heap[n + 1]? = some (.cells ZZ 52 (0, 0))) ∧ Aside0 (Below n w w5)) (fun v5 _ => 80 - (intOf v5).toNat)
      case atStart => exact ⟨16, by omega, by omega, rfl, R1', R0, R3, RB⟩
      case round =>
        clear R1' R0 R3 RB
        obtain ⟨j, hj16, hj80, rfl, R1, R0, R3, RB⟩ := hrel
        by_cases hlt : j < 80
        · obtain ⟨m, hm⟩ : ∃ m, m = j - 16 := ⟨_, rfl⟩
          rw [← hm] at R1
          have hjm : j = 16 + m := by omega
          have HM := Aside0.mk hjm
          clear hm hjm
          have hm64 : m < 64 := by have := HM.out; omega
          have at_ : ∀ i, i < 16 + m → wr.cell? ⟨n + 2, i, none⟩ = some (.int .u32 ((sch l m).getD i 0)) := fun i hi => by
            rw [← W80_at l m i hi]
            exact nums_cell R1.out i (by rw [W80_len l m (by omega)]; omega)
          have c13 := at_ (m + 13) (by omega)
          have c8 := at_ (m + 8) (by omega)
          have c2 := at_ (m + 2) (by omega)
          have c0 := at_ m (by omega)
          clear at_
          obtain ⟨y13, h13⟩ : ∃ y, y = (sch l m).getD (m + 13) 0 := ⟨_, rfl⟩
          obtain ⟨y8, h8⟩ : ∃ y, y = (sch l m).getD (m + 8) 0 := ⟨_, rfl⟩
          obtain ⟨y2, h2⟩ : ∃ y, y = (sch l m).getD (m + 2) 0 := ⟨_, rfl⟩
          obtain ⟨y0, h0⟩ : ∃ y, y = (sch l m).getD m 0 := ⟨_, rfl⟩
          rw [← h13] at c13
          rw [← h8] at c8
          rw [← h2] at c2
          rw [← h0] at c0
          have H13 := Aside0.mk h13
          have H8 := Aside0.mk h8
          have H2 := Aside0.mk h2
          have H0 := Aside0.mk h0
          clear h13 h8 h2 h0
          have i3 := arr_index U.out I.out (n + 2) (m + 13) .i64 ((j : Int) - 3) (by have := HM.out; omega) (by omega)
          have i8 := arr_index U.out I.out (n + 2) (m + 8) .i64 ((j : Int) - 8) (by have := HM.out; omega) (by omega)
          have i14 := arr_index U.out I.out (n + 2) (m + 2) .i64 ((j : Int) - 14) (by have := HM.out; omega) (by omega)
          have i16 := arr_index U.out I.out (n + 2) m .i64 ((j : Int) - 16) (by have := HM.out; omega) (by omega)
          have ij := arr_index U.out I.out (n + 2) j .i64 (j : Int) rfl (by omega)
          go_wp2
          have w3 : IntKind.i64.wrap ((j : Int) - 3) = (j : Int) - 3 := IntWalk.i64_in _ (by omega)
          have w8 : IntKind.i64.wrap ((j : Int) - 8) = (j : Int) - 8 := IntWalk.i64_in _ (by omega)
          have w14 : IntKind.i64.wrap ((j : Int) - 14) = (j : Int) - 14 := IntWalk.i64_in _ (by omega)
          have w16 : IntKind.i64.wrap ((j : Int) - 16) = (j : Int) - 16 := IntWalk.i64_in _ (by omega)
          refine wp_region_still_tail 22 (by kernel_rfl) (by kernel_rfl) ?_
          simp only [List.take_succ_cons, List.take_zero, List.drop_succ_cons, List.drop_zero]
          repeat still_step
          still_call (turn1 _ _)
          repeat still_step
          try refine wpStill_nil ?_
          change wpList _ _ _ _ _ wr.drew
          generalize hy : rotl (bits .xor .u32 (bits .xor .u32 (bits .xor .u32 y13 y8) y2) y0) 1 = y
          have HY : Aside0 (rotl (bits .xor .u32 (bits .xor .u32 (bits .xor .u32 ((sch l m).getD (m + 13) 0) ((sch l m).getD (m + 8) 0)) ((sch l m).getD (m + 2) 0)) ((sch l m).getD m 0)) 1 = y) := ⟨by rw [← H13.out, ← H8.out, ← H2.out, ← H0.out]; exact hy⟩
          clear hy c13 c8 c2 c0 w3 w8 w14 w16 i3 i8 i14 i16
          have R1' := Aside0.mk (blk_drew R1.out)
          have R0' := Aside0.mk (blk_drew R0.out)
          have R3' := Aside0.mk (blk_drew R3.out)
          have RB' := Aside0.mk (below_drew RB.out)
          clear R1 R0 R3 RB
          have fz' : wr.drew.frozen? ⟨n + 2, j, none⟩ = false := blk_frozen R1'.out j
          generalize wr.drew = w4 at R1' R0' R3' RB' fz' ⊢
          obtain ⟨v0, cw⟩ : ∃ v, w4.cell? ⟨n + 2, j, none⟩ = some v := ⟨_, nums_cell R1'.out j (by rw [W80_len l m (by omega)]; omega)⟩
          go_wp2
          go_roundw
          case rel => exact ⟨j + 1, by omega, by omega, by go_num, ⟨by rw [← HY.out, show j + 1 - 16 = m + 1 by have := HM.out; omega]; exact blk_put R1'.out j _ (by rw [HM.out]; exact W80_next l m hm64)⟩, ⟨blk_far R0'.out (by simp) _⟩, ⟨blk_far R3'.out (by simp) _⟩, ⟨RB'.out.setCell (by simp) _⟩⟩
          case measure => simp [intOf]; omega
        · have hj : j = 80 := by omega
          subst hj
          have R0n : Aside0 (wr.heap[n]? = some (.cells (nums .u32 [h0, h1, h2, h3, h4]).toArray 52 (0, 0))) := ⟨by rw [R0.out, HHH.out]; rfl⟩
          have R1n : Aside0 (wr.heap[n + 2]? = some (.cells (nums .u32 (sch l 64)).toArray 68 (0, 0))) := ⟨by
            have : W80 l 64 = sch l 64 := by simp [W80]
            rw [← this]
            exact R1.out⟩
          have x0 := nums_cell R0n.out 0 (by simp)
          have x1 := nums_cell R0n.out 1 (by simp)
          have x2 := nums_cell R0n.out 2 (by simp)
          have x3 := nums_cell R0n.out 3 (by simp)
          have x4 := nums_cell R0n.out 4 (by simp)
          clear R0 R1
          go_wp2
          rw [show ((80 : Nat) : Int) = 80 from rfl]
          clear x0 x1 x2 x3 x4
          obtain ⟨p, hp⟩ : ∃ p, p = wr.heap.size := ⟨_, rfl⟩
          have P0 : Aside0 ((wr.alloc (Obj.cells #[.int .u32 h0, .int .u32 h1, .int .u32 h2, .int .u32 h3, .int .u32 h4] 52)).heap[p]? = some (.cells (nums .u32 [h0, h1, h2, h3, h4]).toArray 52 (0, 0))) := ⟨by rw [hp]; exact blk_new _ _⟩
          have hnp : n + 2 < p := by rw [hp]; exact blk_lt R1n.out
          have Q0 := Aside0.mk (blk_alloc R0n.out (Obj.cells #[.int .u32 h0, .int .u32 h1, .int .u32 h2, .int .u32 h3, .int .u32 h4] 52))
          have Q3 := Aside0.mk (blk_alloc R3.out (Obj.cells #[.int .u32 h0, .int .u32 h1, .int .u32 h2, .int .u32 h3, .int .u32 h4] 52))
          have Q1 := Aside0.mk (blk_alloc R1n.out (Obj.cells #[.int .u32 h0, .int .u32 h1, .int .u32 h2, .int .u32 h3, .int .u32 h4] 52))
          have QB : Aside0 (Below n w (wr.alloc (Obj.cells #[.int .u32 h0, .int .u32 h1, .int .u32 h2, .int .u32 h3, .int .u32 h4] 52))) := ⟨RB.out.alloc (by omega) _⟩
          rw [← hp]
          clear hp R0n R3 R1n RB
          generalize wr.alloc (Obj.cells #[.int .u32 h0, .int .u32 h1, .int .u32 h2, .int .u32 h3, .int .u32 h4] 52) = W3 at P0 Q0 Q3 Q1 QB ⊢
          go_loopw [80] (fun v80 ws => ∃ k : Nat, k ≤ 80 ∧ v80 = .int .i64 (k : Int) ∧ ∃ a b c d e : Int, Aside0 (rnds (sch l 64) (h0, h1, h2, h3, h4) k = (a, b, c, d, e)) ∧ Aside0 (ws.heap[p]? = some (.cells (nums .u32 [a, b, c, d, e]).toArray 52 (0, 0))) ∧ Aside0 (ws.heap[n]? = some (.cells (nums .u32 [h0, h1, h2, h3, h4]).toArray 52 (0, 0))) ∧ Aside0 (ws.heap[n + 1]? = some (.cells ZZ 52 (0, 0))) ∧ Aside0 (ws.heap[n + 2]? = some (.cells (nums .u32 (sch l 64)).toArray 68 (0, 0))) ∧ Aside0 (Below n w ws)) (fun v80 _ => 80 - (intOf v80).toNat)
          case atStart => exact ⟨0, by omega, rfl, h0, h1, h2, h3, h4, ⟨rfl⟩, P0, Q0, Q3, Q1, QB⟩
          case round =>
            clear P0 Q0 Q3 Q1 QB
            obtain ⟨k, hk, rfl, a, b, cc, d, e, HR, P0, Q0, Q3, Q1, QB⟩ := hrel
            by_cases hk80 : k < 80
            · obtain ⟨y, hy⟩ : ∃ y, y = (sch l 64).getD k 0 := ⟨_, rfl⟩
              have cw : wr.cell? ⟨n + 2, k, none⟩ = some (.int .u32 y) := by rw [hy]; exact nums_cell Q1.out k (by rw [sch_len]; omega)
              have HY := Aside0.mk hy
              clear hy
              have ix := arr_index U.out I.out (n + 2) k .i64 (k : Int) rfl (by omega)
              have x0 := nums_cell P0.out 0 (by simp)
              have x1 := nums_cell P0.out 1 (by simp)
              have x2 := nums_cell P0.out 2 (by simp)
              have x3 := nums_cell P0.out 3 (by simp)
              have x4 := nums_cell P0.out 4 (by simp)
              have i0 := arr_index U52.out I.out p 0 .i64 0 rfl (by omega)
              have i1 := arr_index U52.out I.out p 1 .i64 1 rfl (by omega)
              have i2 := arr_index U52.out I.out p 2 .i64 2 rfl (by omega)
              have i3 := arr_index U52.out I.out p 3 .i64 3 rfl (by omega)
              have i4 := arr_index U52.out I.out p 4 .i64 4 rfl (by omega)
              have hways : (k < 20 ∧ Aside0 (mixF k b cc d = ch b cc d) ∧ Aside0 (mixK k = 1518500249)) ∨ (20 ≤ k ∧ k < 40 ∧ Aside0 (mixF k b cc d = par b cc d) ∧ Aside0 (mixK k = 1859775393)) ∨ (40 ≤ k ∧ k < 60 ∧ Aside0 (mixF k b cc d = maj b cc d) ∧ Aside0 (mixK k = 2400959708)) ∨ (60 ≤ k ∧ Aside0 (mixF k b cc d = par b cc d) ∧ Aside0 (mixK k = 3395469782)) := by
                by_cases c0 : k < 20
                · exact .inl ⟨c0, ⟨by unfold mixF; rw [if_pos c0]⟩, ⟨by unfold mixK; rw [if_pos c0]⟩⟩
                by_cases c1 : k < 40
                · exact .inr (.inl ⟨by omega, c1, ⟨by unfold mixF; rw [if_neg c0, if_pos c1]⟩, ⟨by unfold mixK; rw [if_neg c0, if_pos c1]⟩⟩)
                by_cases c2 : k < 60
                · exact .inr (.inr (.inl ⟨by omega, c2, ⟨by unfold mixF; rw [if_neg c0, if_neg c1, if_pos c2]⟩, ⟨by unfold mixK; rw [if_neg c0, if_neg c1, if_pos c2]⟩⟩))
                · exact .inr (.inr (.inr ⟨by omega, ⟨by unfold mixF; rw [if_neg c0, if_neg c1, if_neg c2]⟩, ⟨by unfold mixK; rw [if_neg c0, if_neg c1, if_neg c2]⟩⟩))
              rcases hways with ⟨l1, hF, hK⟩ | ⟨l0, l1, hF, hK⟩ | ⟨l0, l1, hF, hK⟩ | ⟨l0, hF, hK⟩
              all_goals
                go_wp2
                go_quiet ((go_at_call 45; exact Calls.quiet_of_same (turn5 _ _)))
                go_wp2
                have P0' : Aside0 ((wr.drewN nq).heap[p]? = some (.cells (nums .u32 [a, b, cc, d, e]).toArray 52 (0, 0))) := ⟨blk_drewN P0.out _⟩
                have Q0' : Aside0 ((wr.drewN nq).heap[n]? = some (.cells (nums .u32 [h0, h1, h2, h3, h4]).toArray 52 (0, 0))) := ⟨blk_drewN Q0.out _⟩
                have Q3' : Aside0 ((wr.drewN nq).heap[n + 1]? = some (.cells ZZ 52 (0, 0))) := ⟨blk_drewN Q3.out _⟩
                have Q1' : Aside0 ((wr.drewN nq).heap[n + 2]? = some (.cells (nums .u32 (sch l 64)).toArray 68 (0, 0))) := ⟨blk_drewN Q1.out _⟩
                have QB' : Aside0 (Below n w (wr.drewN nq)) := ⟨pw_below_drewN QB.out _⟩
                clear P0 Q0 Q3 Q1 QB x0 x1 x2 x3 x4 cw
                generalize wr.drewN nq = w5 at P0' Q0' Q3' Q1' QB' ⊢
                have x0 := nums_cell P0'.out 0 (by simp)
                have x1 := nums_cell P0'.out 1 (by simp)
                have x2 := nums_cell P0'.out 2 (by simp)
                have x3 := nums_cell P0'.out 3 (by simp)
                refine wp_region_still_tail 11 (by kernel_rfl) (by kernel_rfl) ?_
                simp only [List.take_succ_cons, List.take_zero, List.drop_succ_cons, List.drop_zero]
                repeat still_step
                still_call (turn30 _ _)
                repeat still_step
                try refine wpStill_nil ?_
                change wpList _ _ _ _ _ w5.drew
                have P1 := Aside0.mk (blk_drew P0'.out)
                have N0 := Aside0.mk (blk_drew Q0'.out)
                have N3 := Aside0.mk (blk_drew Q3'.out)
                have N1 := Aside0.mk (blk_drew Q1'.out)
                have NB := Aside0.mk (below_drew QB'.out)
                clear P0' Q0' Q3' Q1' QB' x0 x1 x2 x3
                generalize w5.drew = w6 at P1 N0 N3 N1 NB ⊢
                go_wp2_with ((with_reducible refine gate_store (t := 52) (p := 8) (v := .tmp 161) rfl ?_); refine store_arr 52 (.tmp 8) (.tmp 161) p 52 _ _ rfl rfl rfl rfl rfl I52.out (by simp [nums]) (by simp [Value.oneCell']) P1.out ?_)
                go_roundw
                case rel => exact ⟨k + 1, by omega, by go_num, _, _, _, _, _, ⟨by show stp _ k (rnds _ _ k) = _; rw [HR.out]; unfold stp; dsimp only; rw [hF.out, hK.out, ← HY.out]; rfl⟩, ⟨setRow_heap _ _ _ _ _ _ P1.out⟩, ⟨row_far N0.out (by omega) _⟩, ⟨row_far N3.out (by omega) _⟩, ⟨row_far N1.out (by omega) _⟩, ⟨below_setRow NB.out (by omega) _⟩⟩
                case measure => simp [intOf]; omega
            · have hk8 : k = 80 := by omega
              subst hk8
              have N0 : Aside0 (wr.heap[n]? = some (.cells (nums .u32 (addH h0 h1 h2 h3 h4 a b cc d e 0)).toArray 52 (0, 0))) := Q0
              have HR' := Aside0.mk (comp_eq _ _ _ _ _ _ _ _ _ _ _ HR.out)
              have i0 := arr_index U52.out I.out p 0 .i64 0 rfl (by omega)
              have i1 := arr_index U52.out I.out p 1 .i64 1 rfl (by omega)
              have i2 := arr_index U52.out I.out p 2 .i64 2 rfl (by omega)
              have i3 := arr_index U52.out I.out p 3 .i64 3 rfl (by omega)
              have i4 := arr_index U52.out I.out p 4 .i64 4 rfl (by omega)
              have j0 := arr_index U52.out I.out n 0 .i64 0 rfl (by omega)
              have j1 := arr_index U52.out I.out n 1 .i64 1 rfl (by omega)
              have j2 := arr_index U52.out I.out n 2 .i64 2 rfl (by omega)
              have j3 := arr_index U52.out I.out n 3 .i64 3 rfl (by omega)
              have j4 := arr_index U52.out I.out n 4 .i64 4 rfl (by omega)
              clear Q0 Q1 HR
              go_wp2
              rw [show ((80 : Nat) : Int) = 80 from rfl]
              go_loopw [163] (fun v163 ws => ∃ k : Nat, k ≤ 5 ∧ v163 = .int .i64 (k : Int) ∧ Aside0 (ws.heap[n]? = some (.cells (nums .u32 (addH h0 h1 h2 h3 h4 a b cc d e k)).toArray 52 (0, 0))) ∧ Aside0 (ws.heap[p]? = some (.cells (nums .u32 [a, b, cc, d, e]).toArray 52 (0, 0))) ∧ Aside0 (ws.heap[n + 1]? = some (.cells ZZ 52 (0, 0))) ∧ Aside0 (Below n w ws)) (fun v163 _ => 5 - (intOf v163).toNat)
              case atStart => exact ⟨0, by omega, rfl, N0, P0, Q3, QB⟩
              case round =>
                clear N0 P0 Q3 QB
                obtain ⟨k, hk, rfl, N0, P0, Q3, QB⟩ := hrel
                have hk5 : k = 0 ∨ k = 1 ∨ k = 2 ∨ k = 3 ∨ k = 4 ∨ k = 5 := by omega
                rcases hk5 with rfl | rfl | rfl | rfl | rfl | rfl
                · have cw : wr.cell? ⟨n, 0, none⟩ = some (.int .u32 h0) := nums_cell N0.out 0 (by simp [addH])
                  have cv : wr.cell? ⟨p, 0, none⟩ = some (.int .u32 a) := nums_cell P0.out 0 (by simp)
                  go_wp2
                  go_still_tail 9, (by kernel_rfl)
                  change wpList _ _ _ _ _ wr.drew
                  have N0' := Aside0.mk (blk_drew N0.out)
                  have P0' := Aside0.mk (blk_drew P0.out)
                  have Q3' := Aside0.mk (blk_drew Q3.out)
                  have QB' := Aside0.mk (below_drew QB.out)
                  have cw' : wr.drew.cell? ⟨n, 0, none⟩ = some (.int .u32 h0) := nums_cell N0'.out 0 (by simp [addH])
                  have fz' : wr.drew.frozen? ⟨n, 0, none⟩ = false := blk_frozen N0'.out 0
                  clear N0 P0 Q3 QB cw cv
                  generalize wr.drew = w4 at N0' P0' Q3' QB' cw' fz' ⊢
                  go_wp2
                  go_roundw
                  case rel => exact ⟨1, by omega, by simp, ⟨blk_put N0'.out 0 _ (by simp [addH, nums])⟩, ⟨blk_far P0'.out (by simp; omega) _⟩, ⟨blk_far Q3'.out (by simp) _⟩, ⟨QB'.out.setCell (by simp) _⟩⟩
                  case measure => simp [intOf]
                · have cw : wr.cell? ⟨n, 1, none⟩ = some (.int .u32 h1) := nums_cell N0.out 1 (by simp [addH])
                  have cv : wr.cell? ⟨p, 1, none⟩ = some (.int .u32 b) := nums_cell P0.out 1 (by simp)
                  go_wp2
                  go_still_tail 9, (by kernel_rfl)
                  change wpList _ _ _ _ _ wr.drew
                  have N0' := Aside0.mk (blk_drew N0.out)
                  have P0' := Aside0.mk (blk_drew P0.out)
                  have Q3' := Aside0.mk (blk_drew Q3.out)
                  have QB' := Aside0.mk (below_drew QB.out)
                  have cw' : wr.drew.cell? ⟨n, 1, none⟩ = some (.int .u32 h1) := nums_cell N0'.out 1 (by simp [addH])
                  have fz' : wr.drew.frozen? ⟨n, 1, none⟩ = false := blk_frozen N0'.out 1
                  clear N0 P0 Q3 QB cw cv
                  generalize wr.drew = w4 at N0' P0' Q3' QB' cw' fz' ⊢
                  go_wp2
                  go_roundw
                  case rel => exact ⟨2, by omega, by simp, ⟨blk_put N0'.out 1 _ (by simp [addH, nums])⟩, ⟨blk_far P0'.out (by simp; omega) _⟩, ⟨blk_far Q3'.out (by simp) _⟩, ⟨QB'.out.setCell (by simp) _⟩⟩
                  case measure => simp [intOf]
                · have cw : wr.cell? ⟨n, 2, none⟩ = some (.int .u32 h2) := nums_cell N0.out 2 (by simp [addH])
                  have cv : wr.cell? ⟨p, 2, none⟩ = some (.int .u32 cc) := nums_cell P0.out 2 (by simp)
                  go_wp2
                  go_still_tail 9, (by kernel_rfl)
                  change wpList _ _ _ _ _ wr.drew
                  have N0' := Aside0.mk (blk_drew N0.out)
                  have P0' := Aside0.mk (blk_drew P0.out)
                  have Q3' := Aside0.mk (blk_drew Q3.out)
                  have QB' := Aside0.mk (below_drew QB.out)
                  have cw' : wr.drew.cell? ⟨n, 2, none⟩ = some (.int .u32 h2) := nums_cell N0'.out 2 (by simp [addH])
                  have fz' : wr.drew.frozen? ⟨n, 2, none⟩ = false := blk_frozen N0'.out 2
                  clear N0 P0 Q3 QB cw cv
                  generalize wr.drew = w4 at N0' P0' Q3' QB' cw' fz' ⊢
                  go_wp2
                  go_roundw
                  case rel => exact ⟨3, by omega, by simp, ⟨blk_put N0'.out 2 _ (by simp [addH, nums])⟩, ⟨blk_far P0'.out (by simp; omega) _⟩, ⟨blk_far Q3'.out (by simp) _⟩, ⟨QB'.out.setCell (by simp) _⟩⟩
                  case measure => simp [intOf]
                · have cw : wr.cell? ⟨n, 3, none⟩ = some (.int .u32 h3) := nums_cell N0.out 3 (by simp [addH])
                  have cv : wr.cell? ⟨p, 3, none⟩ = some (.int .u32 d) := nums_cell P0.out 3 (by simp)
                  go_wp2
                  go_still_tail 9, (by kernel_rfl)
                  change wpList _ _ _ _ _ wr.drew
                  have N0' := Aside0.mk (blk_drew N0.out)
                  have P0' := Aside0.mk (blk_drew P0.out)
                  have Q3' := Aside0.mk (blk_drew Q3.out)
                  have QB' := Aside0.mk (below_drew QB.out)
                  have cw' : wr.drew.cell? ⟨n, 3, none⟩ = some (.int .u32 h3) := nums_cell N0'.out 3 (by simp [addH])
                  have fz' : wr.drew.frozen? ⟨n, 3, none⟩ = false := blk_frozen N0'.out 3
                  clear N0 P0 Q3 QB cw cv
                  generalize wr.drew = w4 at N0' P0' Q3' QB' cw' fz' ⊢
                  go_wp2
                  go_roundw
                  case rel => exact ⟨4, by omega, by simp, ⟨blk_put N0'.out 3 _ (by simp [addH, nums])⟩, ⟨blk_far P0'.out (by simp; omega) _⟩, ⟨blk_far Q3'.out (by simp) _⟩, ⟨QB'.out.setCell (by simp) _⟩⟩
                  case measure => simp [intOf]
                · have cw : wr.cell? ⟨n, 4, none⟩ = some (.int .u32 h4) := nums_cell N0.out 4 (by simp [addH])
                  have cv : wr.cell? ⟨p, 4, none⟩ = some (.int .u32 e) := nums_cell P0.out 4 (by simp)
                  go_wp2
                  go_still_tail 9, (by kernel_rfl)
                  change wpList _ _ _ _ _ wr.drew
                  have N0' := Aside0.mk (blk_drew N0.out)
                  have P0' := Aside0.mk (blk_drew P0.out)
                  have Q3' := Aside0.mk (blk_drew Q3.out)
                  have QB' := Aside0.mk (below_drew QB.out)
                  have cw' : wr.drew.cell? ⟨n, 4, none⟩ = some (.int .u32 h4) := nums_cell N0'.out 4 (by simp [addH])
                  have fz' : wr.drew.frozen? ⟨n, 4, none⟩ = false := blk_frozen N0'.out 4
                  clear N0 P0 Q3 QB cw cv
                  generalize wr.drew = w4 at N0' P0' Q3' QB' cw' fz' ⊢
                  go_wp2
                  go_roundw
                  case rel => exact ⟨5, by omega, by simp, ⟨blk_put N0'.out 4 _ (by simp [addH, nums])⟩, ⟨blk_far P0'.out (by simp; omega) _⟩, ⟨blk_far Q3'.out (by simp) _⟩, ⟨QB'.out.setCell (by simp) _⟩⟩
                  case measure => simp [intOf]
                · have N0' : Aside0 (wr.heap[n]? = some (.cells RES 52 (0, 0))) := ⟨by rw [HRES.out, HR'.out]; exact N0.out⟩
                  have sz : Aside0 (RES.size = 5) := ⟨by rw [HRES.out, HR'.out]; simp [nums, addH]⟩
                  have one : Aside0 (RES.all (·.oneCell') = true) := ⟨by rw [HRES.out]; simp [nums, Value.oneCell']⟩
                  have szz : Aside0 (ZZ.size = 5) := ⟨by rw [HZZ.out]; rfl⟩
                  clear N0
                  go_wp2_with (first | ((with_reducible refine gate_dst (N := 176) rfl ?_); refine load_arr 52 (.tmp 2) n 5 51 52 RES rfl rfl rfl U52.out (by rw [sz.out]; exact I52.out) N0'.out ?_) | ((with_reducible refine gate_store (t := 52) (p := 4) (v := .tmp 176) rfl ?_); refine store_arr 52 (.tmp 4) (.tmp 176) (n + 1) 52 ZZ RES rfl rfl rfl rfl rfl (by rw [sz.out]; exact I52.out) (by rw [sz.out, szz.out]) one.out Q3.out ?_))
                  have RC := setRow_heap wr (n + 1) ZZ RES 52 (0, 0) Q3.out
                  refine bodyPost_ret (v := .agg RES) ?_ rfl ⟨rfl, ?_⟩
                  · rw [results_cell rfl]
                    exact run_loadVar_row (P := Try.prog) (wr.setRow (n + 1) RES) (n + 1) 52 52 RES (0, 0) _ RC U52.out rfl (by rw [sz.out]; exact I52.out)
                  · rw [← HN.out]
                    exact below_setRow QB.out (by omega) _
end Go.Proofs.Ytcjkichimndioab.Given
