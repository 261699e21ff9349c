/- The document's own disk: Write. -/
import Derived.Test.YticpeniaplhpmaaRf1
import Derived.Deep.Cut
set_option linter.unusedVariables false
set_option linter.unusedSimpArgs false
namespace Go.Proofs.Yticpeniaplhpmaa.Given
open Go.RowKit Go.Proofs.YticpeniaplhpmaaW.PrintWords
def RS.fits (R : RS) (i : Int) (data : ByteArray) : Prop := R.down = false ∧ 0 ≤ i ∧ i < (R.secs.length : Int) ∧ data.size ≤ 32
instance (R : RS) (i : Int) (data : ByteArray) : Decidable (R.fits i data) := by unfold RS.fits; infer_instance
def RS.write (R : RS) (i : Int) (data : ByteArray) : Bool × RS :=
  if R.fits i data then
    if R.left = 0 then
      (false, { R with secs := R.secs.set i.toNat ((wholeS data).extract 0 R.keep.toNat ++ (R.secs.getD i.toNat ⟨#[]⟩).extract R.keep.toNat 32), left := -1, down := true })
    else (true, { R with secs := R.secs.set i.toNat (wholeS data), left := if 0 < R.left then R.left - 1 else R.left })
  else (false, R)
structure RS.Ok (R : RS) : Prop where
  one : 1 ≤ R.secs.length
  most : R.secs.length ≤ 2000
  size : ∀ s ∈ R.secs, s.size = 32
  keep0 : 0 ≤ R.keep
  keep1 : R.keep ≤ 32
  left0 : -1 ≤ R.left
  left1 : R.left ≤ 9223372036854775807
theorem RefAt.open {b q : Nat} {v : Value} {R : RS} {w : World} (h : RefAt b q v R w) (hR : R.Ok) : ∃ g cap, v = .slice (some ⟨g, 0, none⟩) R.secs.length cap ∧ R.secs.length ≤ cap ∧ cap ≤ maxLen ∧ b ≤ g ∧ g < w.heap.size ∧ q < w.heap.size ∧ q ≠ g ∧ w.cell? ⟨q, 0, none⟩ = some (.slice (some ⟨g, 0, none⟩) R.secs.length cap) ∧ w.cell? ⟨q, 1, none⟩ = some (.int .i64 R.left) ∧ w.cell? ⟨q, 2, none⟩ = some (.int .i64 R.keep) ∧ w.cell? ⟨q, 3, none⟩ = some (.bool R.down) ∧ (∀ k, w.frozen? ⟨q, k, none⟩ = false) ∧ ∀ j, j < R.secs.length → w.cell? ⟨g, j, none⟩ = some (.string (R.secs.getD j ⟨#[]⟩)) := by
  obtain ⟨h1, h2, h3⟩ := h
  have h1' := hR.one
  have hl := h3.lt
  have hc := fun g => h3.cells (g := g)
  rcases h3.2 with ⟨_, h0⟩ | ⟨g, cap, cur, rfl, hbg, hgg, h5, h6, _⟩
  · omega
  · refine ⟨g, cap, rfl, h5, h6, hbg, (hl g rfl).2, (Array.getElem?_eq_some_iff.1 h2).1, ?_, by rw [Lib.cell_of_heap h2]; rfl, by rw [Lib.cell_of_heap h2]; rfl, by rw [Lib.cell_of_heap h2]; rfl, by rw [Lib.cell_of_heap h2]; rfl, fun k => Lib.frozen_of_heap h2 k, fun j hj => ?_⟩
    · rintro rfl
      rw [hgg] at h2
      cases h2
    · have := hc g rfl j (.string (R.secs.getD j ⟨#[]⟩)) (by rw [List.getElem?_map, List.getD_eq_getElem?_getD, List.getElem?_eq_getElem hj]; rfl)
      have e : (⟨g, 0, none⟩ : Addr).add j = ⟨g, j, none⟩ := by unfold Addr.add; split <;> simp_all
      rwa [e] at this
theorem RefAt.ch {S : Nat → Prop} {b q : Nat} {v : Value} {R : RS} {w w' : World} (h : RefAt b q v R w) (hc : Ch S w w') (h1 : ¬ S q) (h2 : ∀ k, v.ownBlock = some k → ¬ S k) : RefAt b q v R w' := by
  obtain ⟨a1, a2, a3⟩ := h
  refine ⟨a1, (hc.block q (Array.getElem?_eq_some_iff.1 a2).1 h1).trans a2, a3.1, ?_⟩
  rcases a3.2 with hn | ⟨g', cap', cur, hv, hbg, hgg, rest⟩
  · exact .inl hn
  · exact .inr ⟨g', cap', cur, hv, hbg, (hc.block g' (Array.getElem?_eq_some_iff.1 hgg).1 (h2 g' (by rw [hv]; rfl))).trans hgg, rest⟩
/-- A row of a call's own, opened. -/
theorem own_open {b g cap n : Nat} {ss : List ByteArray} {w : World} (h : w.ownsRow b 9 1 (.slice (some ⟨g, 0, none⟩) n cap) n (ss.map Value.string)) (hn : ss.length = n) : b ≤ g ∧ g < w.heap.size ∧ n ≤ cap ∧ cap ≤ maxLen ∧ (∀ k, w.frozen? ⟨g, k, none⟩ = false) ∧ ∀ j, j < n → w.cell? ⟨g, j, none⟩ = some (.string (ss.getD j ⟨#[]⟩)) := by
  have hc := fun g => h.cells (g := g)
  obtain ⟨l1, l2⟩ := h.lt g rfl
  rcases h.2 with ⟨hv, _⟩ | ⟨g', cap', cur, hv, hbg, hgg, h5, h6, _⟩
  · cases hv
  · cases hv
    refine ⟨l1, l2, h5, h6, fun k => Lib.frozen_of_heap hgg k, fun j hj => ?_⟩
    have := hc g rfl j (.string (ss.getD j ⟨#[]⟩)) (by rw [List.getElem?_map, List.getD_eq_getElem?_getD, List.getElem?_eq_getElem (by omega)]; rfl)
    have e : (⟨g, 0, none⟩ : Addr).add j = ⟨g, j, none⟩ := by unfold Addr.add; split <;> simp_all
    rwa [e] at this
theorem own_set {b g cap n k : Nat} {ss : List ByteArray} {w : World} (h : w.ownsRow b 9 1 (.slice (some ⟨g, 0, none⟩) n cap) n (ss.map Value.string)) (s : ByteArray) : (w.setCell ⟨g, k, none⟩ (.string s)).ownsRow b 9 1 (.slice (some ⟨g, 0, none⟩) n cap) n ((ss.set k s).map Value.string) := by
  refine ⟨by have := h.1; simpa using this, ?_⟩
  rcases h.2 with ⟨hv, _⟩ | ⟨g', cap', cur, hv, hbg, hgg, h5, h6, h7, h8⟩
  · cases hv
  · cases hv
    refine .inr ⟨g, cap, cur.setIfInBounds k (.string s), rfl, hbg, Go.Joins.block_setCell hgg _, h5, h6, by simpa using h7, ?_⟩
    rw [Array.toList_setIfInBounds, List.take_set, h8, List.map_set]
def RPost (b q : Nat) (v : Value) (R : RS) (i : Int) (data : ByteArray) (w : World) (e : Ending) (w' : World) : Prop :=
  e = .returned (.bool (R.write i data).1) ∧ Ch (fun i => i = q) w w' ∧ ∃ v', RefAt b q v' (R.write i data).2 w' ∧ (v' = v ∨ ∀ k, v'.ownBlock = some k → w.heap.size ≤ k)
set_option maxRecDepth 100000 in
set_option maxHeartbeats 1000000 in
theorem rwrite_no {b q : Nat} {v : Value} {R : RS} {w : World} (h : RefAt b q v R w) (hR : R.Ok) (i : Int) (data : ByteArray) (hs : data.size ≤ 9223372036854775807) (hn : ¬ R.fits i data) :
    Calls Try.prog 17 #[.pointer (some ⟨q, 0, none⟩), .int .i64 i, .string data] w (RPost b q v R i data w) := by
  have hr : R.write i data = (false, R) := if_neg hn
  unfold RPost
  rw [hr]
  obtain ⟨g, cap, hv, hc1, hc2, hg, hgl, hql, hne, c0, c1, c2, c3, f1, c4⟩ := h.open hR
  have hm := hR.most
  have HA := Aside0.mk h
  unfold RS.fits at hn
  clear h
  have hd : R.down = true ∨ (R.down = false ∧ (i < 0 ∨ (0 ≤ i ∧ (R.secs.length : Int) ≤ i) ∨ (0 ≤ i ∧ i < (R.secs.length : Int) ∧ 32 < data.size))) := by
    cases hh : R.down with
    | true => exact .inl rfl
    | false =>
      rw [hh] at hn
      simp only [true_and, not_and] at hn
      refine .inr ⟨rfl, ?_⟩
      by_cases h1 : 0 ≤ i
      · by_cases h2 : i < (R.secs.length : Int)
        · have := hn h1 h2; exact .inr (.inr ⟨h1, h2, by omega⟩)
        · exact .inr (.inl ⟨h1, by omega⟩)
      · exact .inl (by omega)
  clear hn hr c4
  rcases hd with hd | ⟨hd, h1 | ⟨h1, h2⟩ | ⟨h1, h2, h3⟩⟩
  all_goals
    rw [hd] at c3
    go_enter Try.func17, Try.ntmps17
    go_wp2
    go_ret
    exact ⟨rfl, Ch.refl _ _, v, HA.out, .inl rfl⟩
theorem makeN (n : Nat) (hn : n ≤ 32) (W : World) : (Instr.makeSlice 30 (.int .i64 (n : Int)) (.int .i64 (n : Int))).run Try.prog W = .ok (.slice (some ⟨W.heap.size, 0, none⟩) n n) (W.alloc (.cells (madeCells #[.int .u8 0] n) 5)) :=
  run_make_row' (P := Try.prog) 30 5 (.int .u8 0) 1 Try.underlying30 (by kernel_rfl) rfl .i64 .i64 n (by omega) (by omega) W
theorem madeCells_get (n i : Nat) (h : i < n) : (madeCells #[Value.int .u8 0] n)[i]? = some (.int .u8 0) := by
  unfold madeCells
  simp [h, Nat.mod_one]
theorem convN (n : Nat) (W : World) : (convert 30 9 (.slice (some ⟨W.heap.size, 0, none⟩) n n)).run Try.prog (W.alloc (.cells (madeCells #[.int .u8 0] n) 5)) =
    .ok (.string ⟨(List.replicate n (0 : UInt8)).toArray⟩) (W.alloc (.cells (madeCells #[.int .u8 0] n) 5)) := by
  have h := run_convert_bytes_arg (P := Try.prog) (W.alloc (.cells (madeCells #[.int .u8 0] n) 5)) 30 5 Try.underlying30 Try.underlying5 W.heap.size 0 n n (List.replicate n 0) (by simp) (fun i hi => ?_) 9 Try.underlying9
  · rw [h]
    simp [strOfNums]
  · rw [Lib.cell_of_heap (World.alloc_heap_new W _), Nat.zero_add, madeCells_get n i hi, List.getD_eq_getElem?_getD, List.getElem?_replicate, if_pos hi]
    rfl
theorem ref_fin {b q g2 cap2 k B2 : Nat} {v : Value} {R : RS} {w1 : World} (h : RefAt b q v R w1) (ho : w1.ownsRow B2 9 1 (.slice (some ⟨g2, 0, none⟩) R.secs.length cap2) R.secs.length (R.secs.map Value.string)) (hB : b ≤ B2) (hne : q ≠ g2) (S : ByteArray) :
    RefAt b q (.slice (some ⟨g2, 0, none⟩) R.secs.length cap2) { R with secs := R.secs.set k S } ((w1.setCell ⟨g2, k, none⟩ (.string S)).setCell ⟨q, 0, none⟩ (.slice (some ⟨g2, 0, none⟩) R.secs.length cap2)) := by
  obtain ⟨a1, a2, a3⟩ := h
  refine ⟨a1, ?_, ?_⟩
  · have e : (w1.setCell ⟨g2, k, none⟩ (.string S)).heap[q]? = some (.cells #[v, .int .i64 R.left, .int .i64 R.keep, .bool R.down] 41 (0, 0)) := (Below.heap_setCell _ _ _ _ hne).trans a2
    rw [Go.Joins.block_setCell e]
    rfl
  · show World.ownsRow _ b 9 1 _ (R.secs.set k S).length ((R.secs.set k S).map Value.string)
    rw [List.length_set]
    exact ownsRow_setCell_other (own_mono (own_set ho S) hB) (by simp [Value.ownBlock]; omega) _
theorem RefAt.put {b q k : Nat} {v u : Value} {R R' : RS} {w : World} (h : RefAt b q v R w) (hs : R'.secs = R.secs) (hq : ∀ x, v.ownBlock = some x → x ≠ q)
    (hv : (#[v, .int .i64 R.left, .int .i64 R.keep, .bool R.down] : Array Value).setIfInBounds k u = #[v, .int .i64 R'.left, .int .i64 R'.keep, .bool R'.down]) : RefAt b q v R' (w.setCell ⟨q, k, none⟩ u) := by
  obtain ⟨a1, a2, a3⟩ := h
  refine ⟨a1, ?_, ?_⟩
  · rw [Go.Joins.block_setCell a2, hv]
  · rw [hs]
    exact ownsRow_setCell_other a3 (fun e => hq _ e rfl) u
set_option maxRecDepth 100000 in
set_option maxHeartbeats 4000000 in
theorem rwrite_yes {b q : Nat} {v : Value} {R : RS} {w : World} (h : RefAt b q v R w) (hb : b ≤ w.heap.size) (hR : R.Ok) (i : Int) (data : ByteArray) (hf : R.fits i data) :
    Calls Try.prog 17 #[.pointer (some ⟨q, 0, none⟩), .int .i64 i, .string data] w (RPost b q v R i data w) := by
  obtain ⟨hd, h1, h2, h3⟩ := id hf
  obtain ⟨k, rfl⟩ : ∃ k : Nat, i = k := ⟨i.toNat, by omega⟩
  have hk : k < R.secs.length := by omega
  have hws := wholeS_size data h3
  obtain ⟨so, hso⟩ : ∃ so, R.secs.getD k ⟨#[]⟩ = so := ⟨_, rfl⟩
  have hos : so.size = 32 := by
    rw [← hso, List.getD_eq_getElem?_getD, List.getElem?_eq_getElem hk]
    exact hR.size _ (List.getElem_mem hk)
  obtain ⟨kp, hkp⟩ : ∃ kp : Nat, R.keep = kp := ⟨R.keep.toNat, by have := hR.keep0; omega⟩
  have hkp2 : kp ≤ 32 := by have := hR.keep1; omega
  obtain ⟨z, hz⟩ : ∃ z, 32 - data.size = z := ⟨_, rfl⟩
  have hzi : 32 - (data.size : Int) = (z : Int) := by omega
  have hmk := makeN z (by omega)
  have hcv := convN z
  have hwe : wholeS data = data ++ ⟨(List.replicate z (0 : UInt8)).toArray⟩ := by unfold wholeS; rw [hz]
  have hr : R.write k data = if R.left = 0 then
      (false, { R with secs := R.secs.set k ((wholeS data).extract 0 kp ++ so.extract kp 32), left := -1, down := true })
    else (true, { R with secs := R.secs.set k (wholeS data), left := if 0 < R.left then R.left - 1 else R.left }) := by
    unfold RS.write
    rw [if_pos hf, Int.toNat_natCast, hkp, Int.toNat_natCast, hso]
  rw [hwe] at hws hr
  generalize (⟨(List.replicate z (0 : UInt8)).toArray⟩ : ByteArray) = zs at hws hr hcv
  obtain ⟨g, cap, rfl, hc1, hc2, hg, hgl, hql, hne, c0, c1, c2, c3, f1, c4⟩ := h.open hR
  have hm := hR.most
  have hl0 := hR.left0
  have hl1 := hR.left1
  rw [hd] at c3
  have HA := Aside0.mk h
  have C4 := Aside0.mk c4
  have HR := Aside0.mk hr
  clear h hf hz hwe c4 hr
  have hcat : data.size + zs.size = 32 := by rw [ByteArray.size_append] at hws; exact hws
  obtain ⟨i0, hi, hz0, hz1, hz2⟩ := info_parts info9
  obtain ⟨A1, hA1⟩ : ∃ A1, A1 = Obj.cells (madeCells #[.int .u8 0] z) 5 := ⟨_, rfl⟩
  have hb1 : Below w.heap.size w ((w.alloc A1).alloc (.cells #[] 9)) := ((Below.refl _ w).alloc (Nat.le_refl _) _).alloc (by simp) _
  have ow0 : ((w.alloc A1).alloc (.cells #[] 9)).ownsRow w.heap.size 9 1 (.slice (some ⟨w.heap.size + 1, 0, none⟩) 0 0) 0 [] := by
    refine ⟨rfl, .inr ⟨_, _, #[], rfl, by omega, ?_, Nat.le_refl _, by unfold maxLen; omega, rfl, rfl⟩⟩
    have := World.alloc_heap_new (w.alloc A1) (.cells #[] 9)
    rwa [World.size_alloc] at this
  have nw : ∀ j u, (R.secs.map Value.string)[j]? = some u → ((w.alloc A1).alloc (.cells #[] 9)).cell? ((⟨g, 0, none⟩ : Addr).add j) = some u := by
    intro j u hj
    rw [List.getElem?_map] at hj
    obtain ⟨x, hx, rfl⟩ := Option.map_eq_some_iff.1 hj
    have hjl := (List.getElem?_eq_some_iff.1 hx).1
    have e : (⟨g, 0, none⟩ : Addr).add j = ⟨g, j, none⟩ := by unfold Addr.add; split <;> simp_all
    have := C4.out j hjl
    rw [List.getD_eq_getElem?_getD, hx] at this
    rw [e]
    exact (hb1.cell (p := ⟨g, j, none⟩) hgl).trans this
  have HB1 := Aside0.mk hb1
  have OW0 := Aside0.mk ow0
  have NW := Aside0.mk nw
  have ON : Aside0 (∀ u ∈ R.secs.map Value.string, u.oneCell' = true) := ⟨fun u hu => by obtain ⟨x, _, rfl⟩ := List.mem_map.1 hu; rfl⟩
  rw [hA1] at HB1 OW0 NW
  clear hb1 ow0 nw hA1
  have hml : (R.secs.map Value.string).length = R.secs.length * 1 := by simp
  have HN := Aside0.mk (show 0 < R.secs.length from hR.one)
  have hRO := Aside0.mk hR
  have QL : Aside0 (∀ {x : Nat}, w.heap.size ≤ x → q ≠ x) := ⟨fun h => by omega⟩
  have hlc : R.left = 0 ∨ (R.left ≠ 0 ∧ 0 < R.left) ∨ (R.left ≠ 0 ∧ ¬ 0 < R.left) := by omega
  rcases hlc with hl | ⟨hl, hl'⟩ | ⟨hl, hl'⟩
  all_goals
    go_enter Try.func17, Try.ntmps17
    go_wp2_with (at_builtin; refine wpList_append_own _ rfl (.tmp 38) (.tmp 42) 39 rfl w.heap.size 9 i0 (.string ⟨#[]⟩) 1 16 Try.underlying39 hi hz0 hz1 hz2 rfl (by decide) (.slice (some ⟨w.heap.size + 1, 0, none⟩) 0 0) 0 [] rfl OW0.out ⟨g, 0, none⟩ R.secs.length cap (R.secs.map Value.string) rfl hml NW.out ON.out (by unfold maxLen; omega) (by omega) (by simp; omega) ?_; intro v' w1 ho hgr _; rw [Nat.zero_add, List.nil_append] at ho; rcases ho.2 with ⟨_, h0⟩ | ⟨g2, cap2, cur2, rfl, hbg2, hgg2, h5, h6, h7, h8⟩; (exact absurd h0 (by have := HN.out; omega)); have HO := Aside0.mk ho; have HG := Aside0.mk (grown_drawn hgr HB1.out rfl rfl rfl rfl (by simp; omega) (by intro k hk; simp [Value.ownBlock] at hk; omega)); clear ho hgr hbg2 hgg2 h5 h6 h7 h8; obtain ⟨hg2, hgl2, _, _, fz2, cl2⟩ := own_open HO.out rfl; have HR1 := Aside0.mk (HA.out.ch (S := fun _ => False) (Ch.of_new HG.out) id (fun _ _ => id)); clear c0 c1 c2 c3 f1 hgl hql hg hne hc1 hc2; obtain ⟨_, _, hvq, hc1, hc2, hg, hgl, hql, hne, c0, c1, c2, c3, f1, _⟩ := HR1.out.open hRO.out; cases hvq; have c5 := cl2 k hk; rw [hso] at c5; have f5 := fz2 k; have q2 : q ≠ g2 := QL.out hg2; have f10 := f1 0; have f11 := f1 1; have f13 := f1 3; clear cl2 fz2)
    have hmx : ∀ x, (Value.slice (some ⟨g2, 0, none⟩) R.secs.length cap2).ownBlock = some x → x ≠ q := by
      intro x hx
      simp [Value.ownBlock] at hx
      omega
    have hmy : ∀ x, (Value.slice (some ⟨g2, 0, none⟩) R.secs.length cap2).ownBlock = some x → w.heap.size ≤ x := by
      intro x hx
      simp [Value.ownBlock] at hx
      omega
    have hsetc : ∀ S : ByteArray, Ch (fun i => i = q) w ((w1.setCell ⟨g2, k, none⟩ (.string S)).setCell ⟨q, 0, none⟩ (.slice (some ⟨g2, 0, none⟩) R.secs.length cap2)) := fun S =>
      (⟨HG.out.os, HG.out.tape, HG.out.output, Nat.le_trans HG.out.size (by simp), fun i hi hs => (Below.heap_setCell _ _ _ _ (by show i ≠ g2; omega)).trans (HG.out.block i hi)⟩ : Ch (fun i => i = q) w (w1.setCell ⟨g2, k, none⟩ (.string S))).set _ rfl _
  · have HRo := HR.out
    rw [if_pos hl] at HRo
    have HR := Aside0.mk HRo
    clear HRo hcat
    generalize data ++ zs = S at *
    rw [hkp] at c2
    have k1 : (kp : Int) ≤ 32 := by omega
    go_still_tail 19, (by kernel_rfl)
    change wpList _ _ _ _ _ w1.drew
    have d5 : w1.drew.cell? ⟨g2, k, none⟩ = some (.string so) := c5
    have dg : w1.drew.frozen? ⟨g2, k, none⟩ = false := f5
    have e0 : w1.drew.cell? ⟨q, 0, none⟩ = _ := c0
    have e1 : w1.drew.cell? ⟨q, 1, none⟩ = _ := c1
    have e3 : w1.drew.cell? ⟨q, 3, none⟩ = _ := c3
    have g0 : w1.drew.frozen? ⟨q, 0, none⟩ = false := f10
    have g1 : w1.drew.frozen? ⟨q, 1, none⟩ = false := f11
    have g3 : w1.drew.frozen? ⟨q, 3, none⟩ = false := f13
    have l2 : g2 < w1.drew.heap.size := hgl2
    have lq : q < w1.drew.heap.size := hql
    have HR2 : Aside0 (RefAt b q (Value.slice (some ⟨g, 0, none⟩) R.secs.length cap) R w1.drew) := ⟨HR1.out⟩
    have HO2 := Aside0.mk (show w1.drew.ownsRow w.heap.size 9 1 (.slice (some ⟨g2, 0, none⟩) R.secs.length cap2) R.secs.length (R.secs.map Value.string) from HO.out)
    have HS := Aside0.mk (fun T => show Ch (fun i => i = q) w ((w1.drew.setCell ⟨g2, k, none⟩ (.string T)).setCell ⟨q, 0, none⟩ (.slice (some ⟨g2, 0, none⟩) R.secs.length cap2)) from ⟨(hsetc T).os, (hsetc T).tape, (hsetc T).output, (hsetc T).size, (hsetc T).block⟩)
    clear c0 c1 c2 c3 c5 f1 f5 f10 f11 f13 HR1 HO hgl2 hql hsetc HG HB1 OW0 NW
    generalize w1.drew = w2 at *
    go_wp2
    go_ret
    unfold RPost
    rw [HR.out]
    exact ⟨rfl, ((HS.out _).set _ rfl _).set _ rfl _, _, ((ref_fin HR2.out HO2.out hb q2 _).put (R' := { R with secs := R.secs.set k (S.extract 0 kp ++ so.extract kp 32), left := -1 }) rfl hmx rfl).put (R' := { R with secs := R.secs.set k (S.extract 0 kp ++ so.extract kp 32), left := -1, down := true }) rfl hmx rfl, .inr hmy⟩
  · go_ret
    unfold RPost
    rw [HR.out, if_neg hl, if_pos hl']
    exact ⟨rfl, (hsetc _).set _ rfl _, _, (ref_fin HR1.out HO.out hb q2 _).put (R' := { R with secs := R.secs.set k (data ++ zs), left := R.left - 1 }) rfl hmx rfl, .inr hmy⟩
  · go_ret
    unfold RPost
    rw [HR.out, if_neg hl, if_neg (by omega : ¬ 0 < R.left)]
    exact ⟨rfl, hsetc _, _, ref_fin HR1.out HO.out hb q2 _, .inr hmy⟩
theorem rwrite_call {b q : Nat} {v : Value} {R : RS} {w : World} (h : RefAt b q v R w) (hb : b ≤ w.heap.size) (hR : R.Ok) (i : Int) (data : ByteArray) (hs : data.size ≤ 9223372036854775807) :
    Calls Try.prog 17 #[.pointer (some ⟨q, 0, none⟩), .int .i64 i, .string data] w (RPost b q v R i data w) := by
  by_cases hf : R.fits i data
  · exact rwrite_yes h hb hR i data hf
  · exact rwrite_no h hR i data hs hf
end Go.Proofs.Yticpeniaplhpmaa.Given
