/- slices.Repeat at one string. -/
import Derived.Test.YtpnnnhdhmdildaaDk1
import Derived.Laws.CopyOwn
import Derived.Deep.RegionLaw
set_option linter.unusedVariables false
set_option linter.unusedSimpArgs false
namespace Go.Proofs.Ytpnnnhdhmdildaa.Given
open Go.RowKit Go.Proofs.YtpnnnhdhmdildaaW.PrintWords
theorem info9 : (Try.prog.info? 9).map (fun i => (i.zero, i.size, i.bytes)) = some (some (.string ⟨#[]⟩), 1, 16) := by kernel_rfl
theorem gate_dst {P : Program} {ops : Array Oper} {Q : Exit → Act → World → Prop} {N : Nat} {o : Oper} {rest : List Oper} {a : Act} {w : World} (hd : o.dst = some N) (h : wpList P ops Q (o :: rest) a w) : wpList P ops Q (o :: rest) a w := h
theorem src_rep {W : World} {q : Nat} {s : ByteArray} (m : Nat) (h : ∀ j, j < m → W.cell? ⟨q, j, none⟩ = some (.string s)) : ∀ j v, (List.replicate m (Value.string s))[j]? = some v → W.cell? ((⟨q, 0, none⟩ : Addr).add j) = some v := by
  intro j v hj
  rw [List.getElem?_replicate] at hj
  split at hj
  · rename_i hlt
    injection hj with hj
    subst hj
    have e : (⟨q, 0, none⟩ : Addr).add j = ⟨q, j, none⟩ := by unfold Addr.add; split <;> simp_all
    rw [e]
    exact h j hlt
  · cases hj
theorem one_rep (m : Nat) (s : ByteArray) : ∀ v ∈ List.replicate m (Value.string s), v.oneCell' = true := by
  intro v hv
  rw [List.eq_of_mem_replicate hv]
  rfl
def Filled (g c k : Nat) (s : ByteArray) (W : World) : Prop := ∃ cur : Array Value, W.heap[g]? = some (.cells cur 9 (0, 0)) ∧ cur.size = c ∧ ∀ i, i < k → cur[i]? = some (.string s)
theorem size9 : (Try.prog.info? 9).map (·.size) = some 1 := by kernel_rfl
theorem Filled.copy {g c k m : Nat} {s : ByteArray} {W : World} {cur : Array Value} (hg : W.heap[g]? = some (.cells cur 9 (0, 0))) (hc : cur.size = c) (h : ∀ i, i < k → cur[i]? = some (.string s)) (hm : k + m ≤ c) :
    Filled g c (k + m) s (W.setRow g (cur.toList.take k ++ (List.replicate m (Value.string s) ++ cur.toList.drop (k + (List.replicate m (Value.string s)).length))).toArray) := by
  refine ⟨_, setRow_heap W g _ _ 9 _ hg, ?_, fun i hi => ?_⟩
  · simp; omega
  · have e1 : (cur.toList.take k).length = k := by simp; omega
    rw [List.getElem?_toArray]
    by_cases h1 : i < k
    · rw [List.getElem?_append_left (by rw [e1]; exact h1), List.getElem?_take_of_lt h1]
      simpa using h i h1
    · rw [List.getElem?_append_right (by rw [e1]; omega), List.getElem?_append_left (by rw [e1, List.length_replicate]; omega), e1, List.getElem?_replicate, if_pos (by omega)]
set_option maxRecDepth 100000 in
set_option maxHeartbeats 2000000 in
theorem repeat_call (q c : Nat) (s : ByteArray) (w : World) (hc1 : 1 ≤ c) (hc2 : c ≤ 2000) (hq : w.cell? ⟨q, 0, none⟩ = some (.string s)) (hql : q < w.heap.size) :
    Calls Try.prog 26 #[.slice (some ⟨q, 0, none⟩) 1 1, .int .i64 c] w fun e w' => e = .returned (.slice (some ⟨w.heap.size, 0, none⟩) c c) ∧ w'.ownsRow w.heap.size 9 1 (.slice (some ⟨w.heap.size, 0, none⟩) c c) c ((List.replicate c s).map Value.string) ∧ Below w.heap.size w w' := by
  obtain ⟨i0, hi, hz0, hz1, hz2⟩ := info_parts info9
  have hbs : i0.bytes * c ≤ 281474976710656 := by rw [hz2]; omega
  have HM := Aside0.mk (fun W => Try.bits_Mul 1 c (by omega) (by omega) W)
  have m1 : 1 * c / 18446744073709551616 = 0 := by omega
  have m2 : 1 * c % 18446744073709551616 = c := by omega
  rw [m1, m2] at HM
  clear m1 m2
  go_enter Try.func26, Try.ntmps26
  go_wp2_with (first
    | (go_at_call 35; refine (HM.out _).mono ?_; rintro e w' ⟨rfl, hw⟩; obtain rfl : w = w' := hw.symm)
    | (at_make; refine wpList_make_full _ rfl _ _ 30 rfl w.heap.size 9 i0 _ 1 Try.underlying30 hi hz0 hz1 .i64 .i64 (c : Int) (c : Int) c rfl rfl rfl rfl hbs (by unfold maxLen; omega) (Nat.le_refl _) ?_; intro w1 hown hgr; rcases hown.2 with ⟨hv, _⟩ | ⟨g, cap, cur, hv, _, hg, _, _, hcs, _⟩ <;> cases hv; have hq1 := hgr.cell hq (by simp); have HB := Aside0.mk (show Below w.heap.size w w1 from ((Below.refl _ w).grown hgr (Nat.le_refl _) (by simp))); clear hown hgr hq)
    | ((with_reducible refine gate_dst (N := 33) rfl ?_); refine wpList_copy_own rfl (.tmp 31) (.tmp 32) 30 30 rfl 9 Try.underlying30 size9 w.heap.size 0 c c ⟨q, 0, none⟩ 1 1 rfl rfl cur 9 hg (List.replicate 1 (.string s)) (Nat.min_eq_left hc1).symm (src_rep 1 fun j hj => by obtain rfl : j = 0 := (by omega); exact hq1) (by rw [hcs]; simp; omega) (one_rep 1 s) ?_; have HF := Aside0.mk (Filled.copy (k := 0) (m := 1) (s := s) (c := c) hg (by omega) (fun i hi => by omega) (by omega)); have HB2 := Aside0.mk (below_setRow HB.out (Nat.le_refl _) (cur.toList.take 0 ++ (List.replicate 1 (Value.string s) ++ cur.toList.drop (0 + (List.replicate 1 (Value.string s)).length))).toArray); generalize w1.setRow w.heap.size (cur.toList.take 0 ++ (List.replicate 1 (Value.string s) ++ cur.toList.drop (0 + (List.replicate 1 (Value.string s)).length))).toArray = w2 at HF HB2 ⊢; clear hg HB hq1))
  go_loopw [8] (fun v8 wr => ∃ k : Nat, v8 = .int .i64 (k : Int) ∧ 1 ≤ k ∧ k ≤ c ∧ Aside0 (Filled w.heap.size c k s wr) ∧ Aside0 (Below w.heap.size w wr)) (fun v _ => c - (intOf v).toNat)
  case atStart => exact ⟨1, rfl, Nat.le_refl _, hc1, HF, HB2⟩
  case round =>
    clear HF HB2
    obtain ⟨k, rfl, k1, k2, HF, HB⟩ := hrel
    by_cases hlt : k < c
    · obtain ⟨cur2, f1, f2, f3⟩ := HF.out
      obtain ⟨m, hm⟩ : ∃ m, Nat.min k (c - k) = m := ⟨_, rfl⟩
      have hm1 : 1 ≤ m ∧ m ≤ k ∧ k + m ≤ c := by
        rcases Nat.le_total k (c - k) with h | h
        · have : m = k := hm.symm.trans (Nat.min_eq_left h)
          omega
        · have : m = c - k := hm.symm.trans (Nat.min_eq_right h)
          omega
      obtain ⟨L, hL⟩ : ∃ L, cur2.toList = L := ⟨_, rfl⟩
      obtain ⟨cs, hcs2⟩ : ∃ cs, cs = List.replicate m (Value.string s) := ⟨_, rfl⟩
      have f4 : wr.heap[w.heap.size]? = some (.cells L.toArray 9 (0, 0)) := by rw [← hL]; exact f1
      have f5 : L.length = c := by rw [← hL]; exact f2
      have f6 : cs.length = m := by rw [hcs2, List.length_replicate]
      have f7 := f6.trans hm.symm
      have src : Aside0 (∀ j v, cs[j]? = some v → wr.cell? ((⟨w.heap.size, 0, none⟩ : Addr).add j) = some v) := ⟨by rw [hcs2]; exact src_rep m fun j hj => by simp [World.cell?, f1, f3 j (by omega)]⟩
      have one : Aside0 (∀ v ∈ cs, v.oneCell' = true) := ⟨by rw [hcs2]; exact one_rep m s⟩
      have FS : Aside0 (∀ W, W.heap[w.heap.size]? = some (.cells (splice L k cs).toArray 9 (0, 0)) → Filled w.heap.size c (k + m) s W) := by
        refine ⟨fun W hW => ⟨_, hW, ?_, fun i hi => ?_⟩⟩
        · rw [List.size_toArray, length_splice _ _ _ (by omega), f5]
        · rw [List.getElem?_toArray]
          have e1 : (L.take k).length = k := by rw [List.length_take]; omega
          unfold splice
          by_cases h1 : i < k
          · rw [List.getElem?_append_left (by rw [e1]; exact h1), List.getElem?_take_of_lt h1, ← hL]
            simpa using f3 i h1
          · rw [List.getElem?_append_right (by rw [e1]; omega), List.getElem?_append_left (by rw [e1, f6]; omega), e1, hcs2, List.getElem?_replicate, if_pos (by omega)]
      clear f1 f2 f3 hL hcs2 hm
      have HM1 := Aside0.mk f7
      have H6 := Aside0.mk f6
      clear f7 f6
      have hcl : decide ((k : Int) < (c : Int)) = true := decide_eq_true (by omega)
      go_wp2
      go_region_law (refine step_copy_splice rfl (.tmp 41) (.tmp 44) 30 30 rfl 9 Try.underlying30 size9 (some ⟨w.heap.size, k, none⟩) (some ⟨w.heap.size, 0, none⟩) (c - k) (c - k) k c (by simp [Act.eval, Act.put]; omega) (by simp [Act.eval, Act.put]) w.heap.size k L 9 f4 cs HM1.out (fun _ => ⟨rfl, _, rfl, src.out⟩) (by have := H6.out; omega) one.out w.heap.size w ⟨HB.out.os, HB.out.tape, HB.out.output, HB.out.size, HB.out.block⟩ (Nat.le_refl _) ?_; intro w4 hg4 hb4; have HF4 := Aside0.mk (FS.out _ hg4.out); have HB4 := Aside0.mk hb4; clear hg4 hb4)
      go_wp2
      have hw : IntKind.i64.wrap ((k : Int) + (cs.length : Int)) = ((k + m : Nat) : Int) := by rw [H6.out, IntWalk.i64_in _ (by omega)]; omega
      rw [hw]
      exact ⟨⟨k + m, rfl, by omega, by omega, HF4⟩, by simp [intOf]; omega⟩
    · obtain rfl : k = c := by omega
      go_wp2
      go_ret
      obtain ⟨cur2, f1, f2, f3⟩ := HF.out
      refine ⟨rfl, ⟨by simp, .inr ⟨_, _, cur2, rfl, Nat.le_refl _, f1, Nat.le_refl _, by unfold maxLen; omega, by omega, ?_⟩⟩, HB.out⟩
      rw [List.map_replicate]
      apply List.ext_getElem?
      intro i
      rw [List.getElem?_replicate, List.getElem?_take]
      by_cases hi2 : i < k
      · rw [if_pos (by omega), if_pos hi2]
        simpa using f3 i hi2
      · rw [if_neg (by omega), if_neg hi2]
end Go.Proofs.Ytpnnnhdhmdildaa.Given
