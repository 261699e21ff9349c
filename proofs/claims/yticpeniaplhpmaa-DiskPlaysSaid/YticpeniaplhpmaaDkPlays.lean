/- Any calls: each answer, each sector, is it down; a copy is by itself. For every input. No condition. -/
import Derived.Test.YticpeniaplhpmaaDkThree
import Derived.Test.YticpeniaplhpmaaWithin
import Derived.RegionTactic
import Derived.ChangeAlike
set_option linter.unusedVariables false
set_option linter.unusedSimpArgs false
namespace Go.Proofs.Yticpeniaplhpmaa.Given
open Go.RowKit Go.Proofs.YticpeniaplhpmaaW.PrintWords
theorem both_new {w W : World} {n : Int} {k : Nat} (hw : Below w.heap.size w W) (hk : n = (k : Int)) (k0 : 1 ≤ k) (k1 : k ≤ 5) :
    Calls Try.prog 7 #[.int .i64 n] W fun e W' => ∃ p g, e = .returned (.pointer (some ⟨p, 0, none⟩)) ∧ DW w w.heap.size p g (newD k) W' :=
  dw_new w W hw (Nat.le_refl _) (by omega)
theorem both_new2 {w W : World} {n : Int} {k p g : Nat} (hw : DW w w.heap.size p g (newD k) W) (hk : n = (k : Int)) (k0 : 1 ≤ k) (k1 : k ≤ 5) :
    Calls Try.prog 15 #[.int .i64 n] W fun e W' => ∃ q v, e = .returned (.pointer (some ⟨q, 0, none⟩)) ∧ Both w k 0 p g q v (newD k) ⟨List.replicate k (wholeS ⟨#[]⟩), -1, 0, false⟩ W' := by
  refine (newdisk_call n k W (by omega)).mono ?_
  rintro e W' ⟨q, v, rfl, hr, hb⟩
  have hs := hw.below.size
  obtain ⟨a1, a2, a3⟩ := hr
  obtain ⟨d1, d2, d3, d4⟩ := hw.disk.g
  have ho := newD_ok k (by omega) (by omega)
  refine ⟨q, v, rfl, ⟨hw.disk.ch (S := fun _ => False) (Ch.of_new hb) id id, ⟨Nat.le_trans hs a1, a2, own_mono a3 hs⟩, hw.below.trans (hb.mono hs), rel_new k, ho, ?_, by simp [newD], by simp [newD], by omega, by omega, fun x hx => ?_⟩⟩
  · exact ⟨ho.one, ho.most, ho.size, by show (0 : Int) ≤ 0; omega, by show (0 : Int) ≤ 32; omega, by show (-1 : Int) ≤ -1; omega, by show (-1 : Int) ≤ 9223372036854775807; omega⟩
  · have := (a3.lt x hx).1
    refine ⟨by omega, by omega, ?_⟩
    rintro rfl
    rcases a3.2 with ⟨rfl, _⟩ | ⟨g', cap', cur, rfl, _, hg, _⟩
    · simp [Value.ownBlock] at hx
    · simp [Value.ownBlock] at hx
      subst hx
      rw [hg] at a2
      cases a2
theorem ask_step {w W : World} (hb : Below w.heap.size w W) {x : Addr} {k : Nat} (h : AskAt w x k) : AskAt W x k := by
  obtain ⟨a, b, c, s, h1, h2, h3, h4, c0, c1, c2, c3⟩ := h
  have hl : ∀ {p : Addr} {v : Value}, w.cell? p = some v → W.cell? p = some v := by
    intro p v hv
    have hp : p.block < w.heap.size := by
      unfold World.cell? at hv
      rcases hh : w.heap[p.block]? with _ | o
      · rw [hh] at hv; cases hv
      · exact (Array.getElem?_eq_some_iff.1 hh).1
    rw [hb.cell hp]
    exact hv
  exact ⟨a, b, c, s, h1, h2, h3, h4, hl c0, hl c1, hl c2, hl c3⟩
set_option maxHeartbeats 8000000 in
set_option maxRecDepth 100000 in
theorem plays_walk (n : Int) (a : Option Addr) (len cap : Nat) (w : World) (hn : (Lit.int .i64 n).wf = true) (hr : AskRow w a len cap) :
    Calls Try.prog 5 #[.int .i64 n, .slice a len cap] w fun e w' => e = .returned (.bool true) ∧ Below w.heap.size w w' := by
  go_enter Try.func5, Try.ntmps5
  have HR := Aside0.mk hr
  have HL : len ≤ maxLen := by
    rcases hr with ⟨_, h, _⟩ | ⟨_, _, h1, h2, _⟩
    · rw [h]; unfold maxLen; omega
    · omega
  unfold maxLen at HL
  clear hr
  go_wp2_with (first
    | (go_at_call 13; (with_reducible refine (within_call n 1 5 _ (by omega) (by omega) (by omega)).mono ?_); rintro e w1 ⟨kk, rfl, k0, k1, d1⟩; obtain ⟨k, rfl⟩ : ∃ k : Nat, kk = (k : Int) := ⟨kk.toNat, by omega⟩; have D1 := Aside0.mk d1.below; clear d1)
    | (go_at_call 7; (with_reducible refine (both_new (k := k) (w := w) D1.out rfl (by omega) (by omega)).mono ?_); rintro e w2 ⟨p, g, rfl, h1⟩; have D2 := Aside0.mk h1; clear h1 D1)
    | (go_at_call 15; (with_reducible refine (both_new2 (k := k) (w := w) D2.out rfl (by omega) (by omega)).mono ?_); rintro e w3 ⟨q, v, rfl, h1⟩; have D3 := Aside0.mk h1; clear h1 D2))
  go_loopw [8] (fun v8 wr => ∃ (i : Nat) (v : Value) (D : DS) (R : RS), v8 = .int .i64 (i : Int) ∧ i ≤ 30 ∧ Aside0 (Both w k i p g q v D R wr)) (fun v _ => 30 - (intOf v).toNat)
  case atStart => exact ⟨0, _, _, _, rfl, by omega, D3⟩
  case round =>
    clear D3
    obtain ⟨i, v, D, R, rfl, hi, HB⟩ := hrel
    by_cases hlt : i < len ∧ i < 30
    · obtain ⟨h1, h2⟩ := hlt
      have h1i : (i : Int) < (len : Int) := by omega
      have h2i : (i : Int) < 30 := by omega
      obtain ⟨x, rfl, hc1, hc2, hat⟩ : ∃ x, a = some x ∧ len ≤ cap ∧ cap ≤ maxLen ∧ AskAt w x i := by
        rcases HR.out with ⟨_, h, _⟩ | ⟨x, e, a1, a2, a3⟩
        · omega
        · exact ⟨x, e, a1, a2, a3 i h1⟩
      obtain ⟨fk, fi, fn, fd, w1, w2, w3, w4, c0, c1, c2, c3⟩ := ask_step HB.out.below hat
      unfold maxLen at hc2 w4
      have d0 : wr.cell? (x.add (i * 4)) = some (.int .i64 fk) := c0
      have d1 : wr.cell? ⟨(x.add (i * 4)).block, (x.add (i * 4)).off + 1, none⟩ = some (.int .i64 fi) := c1
      have d2 : wr.cell? ⟨(x.add (i * 4)).block, (x.add (i * 4)).off + 2, none⟩ = some (.int .i64 fn) := c2
      have d3 : wr.cell? ⟨(x.add (i * 4)).block, (x.add (i * 4)).off + 3, none⟩ = some (.string fd) := c3
      clear hat HR c0 c1 c2 c3
      have hk3 : fk = 1 ∨ fk = 2 ∨ (fk ≠ 1 ∧ fk ≠ 2) := by omega
      have f1 : -9223372036854775808 ≤ fi ∧ fi ≤ 9223372036854775807 := by simp only [Lit.wf, Bool.and_eq_true, decide_eq_true_eq] at w2; exact w2
      have f2 : -9223372036854775808 ≤ fn ∧ fn ≤ 9223372036854775807 := by simp only [Lit.wf, Bool.and_eq_true, decide_eq_true_eq] at w3; exact w3
      obtain ⟨f1a, f1b⟩ := f1
      obtain ⟨f2a, f2b⟩ := f2
      have hsz : ∀ m, (fd.extract 0 m).size ≤ 9223372036854775807 := fun m => by rw [ByteArray.size_extract]; omega
      have HSZ := Aside0.mk hsz
      have HPG := Aside0.mk HB.out.disk.g
      have hqb : wr.heap.size ≠ q := by have := HB.out.q_lt; omega
      have hqb2 : q ≠ wr.heap.size := by have := HB.out.q_lt; omega
      clear hsz w1 w2 w3
      rcases hk3 with rfl | rfl | ⟨hk1, hk2⟩
      all_goals
        go_wp2_with (first
          | (go_at_call 13; (with_reducible refine (within_call fi (-1) k _ (by omega) (by omega) (by omega)).mono ?_); rintro e w4 ⟨jj, rfl, a0, a1, b4⟩; have HB4 := Aside0.mk ((HB.out.step ((Below.refl _ wr).alloc (Nat.le_refl _) _)).step b4.below); have hq := (b4.below.block wr.heap.size (by simp)).trans (World.alloc_heap_new wr _); have HQ4 := Aside0.mk hq; have e0 : w4.cell? ⟨wr.heap.size, 0, none⟩ = _ := (Lib.cell_of_heap hq 0).trans rfl; have e3 : w4.cell? ⟨wr.heap.size, 3, none⟩ = _ := (Lib.cell_of_heap hq 3).trans rfl; clear b4 hq HB d0 d1 d2 d3)
          | (go_at_call 16; (with_reducible refine (three_copy HB4.out hi).mono ?_); rintro e w5 ⟨p', g', rfl, h1, h2⟩; have H3 := Aside0.mk h1; have hq := (h2.block wr.heap.size (Array.getElem?_eq_some_iff.1 HQ4.out).1).trans HQ4.out; have HQ5 := Aside0.mk hq; clear e0 e3; have e0 : w5.cell? ⟨wr.heap.size, 0, none⟩ = _ := (Lib.cell_of_heap hq 0).trans rfl; have e1 : w5.cell? ⟨wr.heap.size, 1, none⟩ = _ := (Lib.cell_of_heap hq 1).trans rfl; have e2 : w5.cell? ⟨wr.heap.size, 2, none⟩ = _ := (Lib.cell_of_heap hq 2).trans rfl; clear h1 h2 HB4 HQ4)
          | (go_at_call 8; (with_reducible refine (three_arm H3.out fn fi f2b).mono ?_); rintro e w6 ⟨rfl, hch, hd, hrf, hcp, hbl⟩; have hq := (hch.block wr.heap.size (Array.getElem?_eq_some_iff.1 HQ5.out).1 (by have := HPG.out; rintro (e | e) <;> omega)).trans HQ5.out; clear e0 e1 e2; have e1 : w6.cell? ⟨wr.heap.size, 1, none⟩ = _ := (Lib.cell_of_heap hq 1).trans rfl; have e2 : w6.cell? ⟨wr.heap.size, 2, none⟩ = _ := (Lib.cell_of_heap hq 2).trans rfl; have hq2 := hrf.2.1; have r1 : w6.cell? ⟨q, 1, none⟩ = _ := (Lib.cell_of_heap hq2 1).trans rfl; have r2 : w6.cell? ⟨q, 2, none⟩ = _ := (Lib.cell_of_heap hq2 2).trans rfl; have z1 := Lib.frozen_of_heap hq2 1; have z2 := Lib.frozen_of_heap hq2 2; have hql := (Array.getElem?_eq_some_iff.1 hq2).1; have H4 := Aside0.mk (H3.out.arm2 f2b hd hrf hcp hbl); clear hch hd hrf hcp hbl hq HQ5 H3 hq2)
          | (go_at_call 14; (with_reducible refine (three_rev H3.out).mono ?_); rintro e w6 ⟨rfl, hd, hrf, hcp, hbl⟩; clear e0 e1 e2; have hq2 := hrf.2.1; have r3 : w6.cell? ⟨q, 3, none⟩ = _ := (Lib.cell_of_heap hq2 3).trans rfl; have z3 := Lib.frozen_of_heap hq2 3; have hql := (Array.getElem?_eq_some_iff.1 hq2).1; have H4 := Aside0.mk (H3.out.rev2 hd hrf hcp hbl); clear hd hrf hcp hbl HQ5 H3 hq2)
          | (go_at_call 9; (with_reducible refine (three_write H3.out jj _ (by omega) (by omega) (HSZ.out _)).mono ?_); rintro e w6 ⟨rfl, h1⟩; have HM := Aside0.mk h1; clear h1 e0 e1 e2)
          | (go_at_call 17; (with_reducible refine (mid_write H3.out HM.out hi (HSZ.out _)).mono ?_); rintro e w7 ⟨rfl, v2, h1⟩; have H4 := Aside0.mk h1; clear h1 HM H3)
          | (go_at_call 14; (with_reducible refine (three_crev H4.out).mono ?_); rintro e w8 ⟨rfl, h1⟩; have H5 := Aside0.mk h1; clear h1 H4)
          | (go_at_call 9; (with_reducible refine (three_cwrite H5.out _ (by decide)).mono ?_); rintro e w9 ⟨⟨_, rfl⟩, h1⟩; have H6 := Aside0.mk h1; clear h1 H5))
      any_goals (first
        | (have x_ := r1; clear x_; go_region; have H4 := Aside0.mk H4.out.drew; go_wp2_with (first
            | (go_at_call 14; (with_reducible refine (three_crev H4.out).mono ?_); rintro e w8 ⟨rfl, h1⟩; have H5 := Aside0.mk h1; clear h1 H4)
            | (go_at_call 9; (with_reducible refine (three_cwrite H5.out _ (by decide)).mono ?_); rintro e w9 ⟨⟨_, rfl⟩, h1⟩; have H6 := Aside0.mk h1; clear h1 H5)))
        | skip)
      all_goals
        obtain ⟨v', D', R', H6⟩ : ∃ v' D' R', Aside0 (Both w k (i + 1) p g q v' D' R' w9) := ⟨_, _, _, H6⟩
        obtain ⟨gv, cv, hc3, hc4, b0, b3, bj⟩ := H6.out.cells
        clear bj
        go_quiet ((first | (go_at_call 11; exact both_downq H6.out _) | (go_at_call 12; exact both_sectorsq H6.out _)))
        clear b0 b3
        have H7 := Aside0.mk (H6.out.step (Drawn0.below ⟨⟨nq, rfl⟩⟩))
        go_wp2
        go_loopw [13] (fun v13 wr => ∃ (x : Int), v13 = .int .i64 x ∧ -1 ≤ x ∧ x ≤ k + 1 ∧ Aside0 (Both w k (i + 1) p g q v' D' R' wr)) (fun v _ => (k + 1 - intOf v).toNat)
        case atStart => exact ⟨-1, rfl, by omega, by omega, H7⟩
        case round =>
          clear H7
          obtain ⟨y, rfl, y0, y1, HY⟩ := hrel
          by_cases hin : y ≤ k
          · have hrr : (∃ j : Nat, y = j ∧ j < k) ∨ (y = -1) ∨ (y = k) := by
              rcases (by omega : y = -1 ∨ y = k ∨ (0 ≤ y ∧ y < k)) with h | h | h
              · exact .inr (.inl h)
              · exact .inr (.inr h)
              · exact .inl ⟨y.toNat, by omega, by omega⟩
            rcases hrr with ⟨j, rfl, hjk⟩ | rfl | rfl
            · have hjk2 : (j : Int) < (k : Int) := by omega
              have hrd : D'.read j = (D'.secs.getD j ⟨#[]⟩, true) := by
                have := HY.out.len
                unfold DS.read
                rw [if_pos ⟨by omega, by omega⟩, Int.toNat_natCast]
              obtain ⟨sj, hsj⟩ : ∃ s, D'.secs.getD j ⟨#[]⟩ = s := ⟨_, rfl⟩
              rw [hsj] at hrd
              have HSJ := Aside0.mk hsj
              have HRD := Aside0.mk hrd
              clear hrd hsj hc3 hc4 gv cv
              go_wp2_with (go_at_call 10; (with_reducible refine (both_readx HY.out HRD.out).mono ?_); rintro e w10 ⟨rfl, h1⟩; have HZ := Aside0.mk h1; obtain ⟨gv, cv, hc3, hc4, b0, b3, bj⟩ := h1.cells; have bk := bj j hjk; rw [HSJ.out] at bk; clear h1 HY bj b3)
              go_roundw
              case rel => exact ⟨(j : Int) + 1, by go_num, by omega, by omega, HZ⟩
              case measure => simp [intOf] <;> omega
            · have HRD : Aside0 (D'.read (-1) = (⟨#[]⟩, false)) := ⟨if_neg (by omega)⟩
              go_wp2_with (go_at_call 10; (with_reducible refine (both_readx HY.out HRD.out).mono ?_); rintro e w10 ⟨rfl, h1⟩; have HZ := Aside0.mk h1; clear h1 HY)
              go_roundw
              case rel => exact ⟨0, by go_num, by omega, by omega, HZ⟩
              case measure => simp [intOf] <;> omega
            · have HRD : Aside0 (D'.read (k : Int) = (⟨#[]⟩, false)) := ⟨if_neg (by have := HY.out.len; omega)⟩
              go_wp2_with (go_at_call 10; (with_reducible refine (both_readx HY.out HRD.out).mono ?_); rintro e w10 ⟨rfl, h1⟩; have HZ := Aside0.mk h1; clear h1 HY)
              go_roundw
              case rel => exact ⟨(k : Int) + 1, by go_num, by omega, by omega, HZ⟩
              case measure => simp [intOf] <;> omega
          · go_wp2
            go_roundw
            case rel => exact ⟨i + 1, _, _, _, by go_num, by omega, HY⟩
            case measure => simp [intOf] <;> omega
    · have hex : ¬ (i < len) ∨ (i < len ∧ ¬ (i < 30)) := by omega
      clear hlt
      rcases hex with h1 | ⟨h1, h2⟩
      all_goals
        go_wp2_with (go_at_call 3; (with_reducible refine (both_runs HB.out).mono ?_); rintro e w11 ⟨rfl, h1⟩; have HE := Aside0.mk h1; clear h1)
        go_ret
        exact ⟨rfl, HE.out⟩
end Go.Proofs.Yticpeniaplhpmaa.Given
