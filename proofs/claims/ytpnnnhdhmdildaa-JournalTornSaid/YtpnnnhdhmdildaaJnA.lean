import Derived.Test.YtpnnnhdhmdildaaPJ
import Derived.Test.YtpnnnhdhmdildaaIt
import Derived.Laws.BytesArg
import Derived.Deep.RegionHeldLaw
section
/- The journal: the pieces of a text. -/
set_option linter.unusedVariables false
set_option linter.unusedSimpArgs false
namespace Go.Proofs.Ytpnnnhdhmdildaa.Given
open Go.RowKit Go.Proofs.YtpnnnhdhmdildaaW.PrintWords Go.Proofs.Ytpnnnhdhmdildaa.J
theorem own_ch {S : Nat → Prop} {w w' : World} {B t e n : Nat} {v : Value} {xs : List Value} (h : w.ownsRow B t e v n xs) (hc : Ch S w w') (hS : ∀ g, B ≤ g → g < w.heap.size → ¬ S g) : w'.ownsRow B t e v n xs := by
  refine ⟨h.1, ?_⟩
  rcases h.2 with hn | ⟨g', cap', cur, hv, hbg, hgg, rest⟩
  · exact .inl hn
  · exact .inr ⟨g', cap', cur, hv, hbg, (hc.block g' (Array.getElem?_eq_some_iff.1 hgg).1 (hS g' hbg (Array.getElem?_eq_some_iff.1 hgg).1)).trans hgg, rest⟩
/-- A row of texts of a walk's own. -/
structure OwnP (w : World) (v : Value) (ps : List ByteArray) (W : World) : Prop where
  row : W.ownsRow w.heap.size 9 1 v ps.length (ps.map Value.string)
  below : Below w.heap.size w W
theorem OwnP.step {w : World} {v : Value} {ps : List ByteArray} {W W' : World} (h : OwnP w v ps W) (hb : Below W.heap.size W W') : OwnP w v ps W' :=
  ⟨own_ch h.row (S := fun _ => False) (Ch.of_new hb) (fun _ _ _ h => h), h.below.trans (hb.mono h.below.size)⟩
theorem OwnP.app {w w2 : World} {v v' : Value} {ps : List ByteArray} {p : ByteArray} {W : World} {o : Obj} {row : Option Nat} (h : OwnP w v ps W) (hown : w2.ownsRow w.heap.size 9 1 v' (ps.length + 1) (ps.map Value.string ++ [.string p])) (hg : (W.alloc o).grownBy w2 row) (hr : ∀ k, row = some k → w.heap.size ≤ k) : OwnP w v' (ps ++ [p]) w2 := by
  refine ⟨by simpa using hown, ?_⟩
  exact (h.below.alloc h.below.size _).grown hg (by rw [World.size_alloc]; have := h.below.size; omega) hr
def szOf : Value → Nat
  | .string s => s.size
  | _ => 0
set_option maxRecDepth 100000 in
set_option maxHeartbeats 2000000 in
theorem pieces_call (PC : ∀ (s : ByteArray) (m : Nat) (w : World), s.size ≤ 30 → m ≤ 255 → Calls Try.prog 30 #[.string s, .int .u8 (m : Int)] w fun e w' => e = .returned (.string (pieceS s (UInt8.ofNat m))) ∧ Below w.heap.size w w') (s0 : ByteArray) (w : World) (hs0 : s0.size ≤ 1000000) :
    Calls Try.prog 16 #[.string s0] w fun e w' => ∃ v, e = .returned v ∧ OwnP w v (piecesL s0) w' := by
  obtain ⟨i0, hi, hz0, hz1, hz2⟩ : ∃ i0, Try.prog.info? 9 = some i0 ∧ i0.zero = some (.string ⟨#[]⟩) ∧ i0.size = 1 ∧ i0.bytes = 16 := by
    have h := info9
    cases hh : Try.prog.info? 9 with
    | none => rw [hh] at h; cases h
    | some i => rw [hh] at h; simp at h; exact ⟨i, rfl, h.1, h.2.1, h.2.2⟩
  have P1 := Aside0.mk (fun (s : ByteArray) (w : World) (h : s.size ≤ 30) => (PC s 1 w h (by decide)).mono (fun e w' h => (⟨pieceS s 1, h.1, ⟨rfl⟩, h.2⟩ : ∃ p : ByteArray, e = .returned (.string p) ∧ Aside0 (p = pieceS s 1) ∧ Below w.heap.size w w')))
  have P2 := Aside0.mk (fun (s : ByteArray) (w : World) (h : s.size ≤ 30) => (PC s 2 w h (by decide)).mono (fun e w' h => (⟨pieceS s 2, h.1, ⟨rfl⟩, h.2⟩ : ∃ p : ByteArray, e = .returned (.string p) ∧ Aside0 (p = pieceS s 2) ∧ Below w.heap.size w w')))
  clear PC
  go_enter Try.func16, Try.ntmps16
  go_wp2
  go_loopw [0, 3] (fun v0 v3 wr => ∃ (s : ByteArray) (ps : List ByteArray) (v : Value), v0 = .string s ∧ v3 = v ∧ Aside0 (piecesL s0 = ps ++ piecesL s) ∧ ps.length * 30 + s.size ≤ s0.size ∧ Aside0 (OwnP w v ps wr)) (fun v _ _ => szOf v)
  case atStart => exact ⟨s0, [], _, rfl, rfl, ⟨rfl⟩, by simp, ⟨World.ownsRow_nil _ _ _ _, Below.refl _ _⟩⟩
  case round =>
    obtain ⟨s, ps, v3, rfl, hv, HP, hle, HO⟩ := hrel
    have hv' := hv.symm
    clear hv
    subst hv'
    have hown0 := HO.out.row
    by_cases hlt : 30 < s.size
    · have h30 : (s.extract 0 30).size ≤ 30 := by rw [ByteArray.size_extract]; omega
      have hd : decide ((30 : Int) < (s.size : Int)) = true := decide_eq_true (by omega)
      clear hown0
      go_wp2_with (first
        | (go_at_call 30; refine (P1.out _ _ h30).mono ?_; rintro e wp ⟨p, rfl, hp, bp⟩; have O1 := Aside0.mk (HO.out.step bp); have hown := O1.out.row; have hbs := O1.out.below.size; clear bp)
        | (at_builtin; refine wpList_append_own _ rfl _ _ 30 rfl w.heap.size 9 i0 (.string ⟨#[]⟩) 1 16 Try.underlying30 hi hz0 hz1 hz2 rfl (by decide) v3 ps.length _ rfl (hown.alloc _) ⟨wp.heap.size, 0, none⟩ 1 1 [.string p] rfl rfl (cell_one_new _ _ _) (by intro u hu; simp at hu; subst hu; rfl) (by unfold maxLen; omega) (by omega) (by simp; omega) ?_; intro v' w1 hown' hgrow _; have O2 := Aside0.mk (OwnP.app O1.out hown' hgrow (fun k hk => (O1.out.row.lt k hk).1)); clear hown' hgrow))
      go_roundw
      case rel => exact ⟨s.extract 30 s.size, ps ++ [p], _, rfl, rfl, ⟨by rw [HP.out, pieces_long hlt, List.append_assoc, hp.out]; rfl⟩, by rw [List.length_append, ByteArray.size_extract]; simp; omega, O2⟩
      case measure => simp only [szOf, ByteArray.size_extract]; omega
    · have hd : decide ((30 : Int) < (s.size : Int)) = false := decide_eq_false (by omega)
      have h30 : s.size ≤ 30 := by omega
      clear hown0
      go_wp2_with (first
        | (go_at_call 30; refine (P2.out _ _ h30).mono ?_; rintro e wp ⟨p, rfl, hp, bp⟩; have O1 := Aside0.mk (HO.out.step bp); have hown := O1.out.row; have hbs := O1.out.below.size; clear bp)
        | (at_builtin; refine wpList_append_own _ rfl _ _ 30 rfl w.heap.size 9 i0 (.string ⟨#[]⟩) 1 16 Try.underlying30 hi hz0 hz1 hz2 rfl (by decide) v3 ps.length _ rfl (hown.alloc _) ⟨wp.heap.size, 0, none⟩ 1 1 [.string p] rfl rfl (cell_one_new _ _ _) (by intro u hu; simp at hu; subst hu; rfl) (by unfold maxLen; omega) (by omega) (by simp; omega) ?_; intro v' w1 hown' hgrow _; have O2 := Aside0.mk (OwnP.app O1.out hown' hgrow (fun k hk => (O1.out.row.lt k hk).1)); clear hown' hgrow))
      go_ret
      exact ⟨_, rfl, by rw [HP.out, pieces_short h30, ← hp.out]; exact O2.out⟩
end Go.Proofs.Ytpnnnhdhmdildaa.Given
end
section
/- A journal's walk: slices.Values' iterator. -/
set_option linter.unusedVariables false
set_option linter.unusedSimpArgs false
namespace Go.Proofs.Ytpnnnhdhmdildaa.Given
open Go.RowKit Go.Proofs.YtpnnnhdhmdildaaW.PrintWords Go.Proofs.Ytpnnnhdhmdildaa.RF
attribute [local go_sem] Oper.semAt_some
set_option maxRecDepth 100000 in
set_option maxHeartbeats 2000000 in
theorem val_yields {F : Fence} {n : Nat} (h37 : F.fn 37) (hro : F.round = none) (hn : 1 ≤ n) {B s g : Nat} {xs : List ByteArray} {w : World} (h : ItAt B s g xs w) (hlen : xs.length ≤ 2000) :
    RF.Yields F n Try.prog 37 #[.pointer (some ⟨s, 0, none⟩)] (fun _ => False) (fun x : ByteArray => #[Value.string x]) (KeepB g) (upto (fun j => xs.getD j ⟨#[]⟩) xs.length) w := by
  intro l J Jx W hW hJ hJx hY h0
  obtain ⟨cap, hb⟩ := h.box
  have hBs := (hW.cell (p := ⟨s, 0, none⟩) h.ls).trans hb
  have hc : ∀ j, j < xs.length → W.cell? ⟨g, j, none⟩ = some (.string (xs.getD j ⟨#[]⟩)) := fun j hj => (hW.cell (p := ⟨g, j, none⟩) h.lg).trans (h.cells j hj)
  clear hb
  refine callsIn_of_wp Try.func37 rfl h37 ?_ hro
  simp only [Try.ntmps37, List.size_toArray, List.length_cons, List.length_nil, Nat.reduceAdd, Nat.reduceSub, Array.replicate_succ, Array.replicate_zero, List.push_toArray, List.append_toArray, List.nil_append, List.cons_append]
  gi_wp2
  gi_loopw [7] (fun i wr => ∃ k : Nat, k ≤ xs.length ∧ i = .int .i64 k ∧ J (upto (fun j => xs.getD j ⟨#[]⟩) k) wr ∧ KeepB g W wr) (fun i _ => xs.length - (intOf i).toNat)
  case atStart => exact ⟨0, Nat.zero_le _, rfl, h0, fun _ ho => ho⟩
  case round =>
    obtain ⟨k, hk, rfl, hJs, hnx⟩ := hrel
    by_cases hlt : k < xs.length
    · have hcx : wr.cell? ⟨g, k, none⟩ = some (.string (xs.getD k ⟨#[]⟩)) := by
        have h1 := hc k hlt
        cases ho : W.heap[g]? with
        | none => rw [World.cell?, ho] at h1; cases h1
        | some o =>
          have h2 := hnx o ho
          rw [World.cell?, ho] at h1
          rw [World.cell?, h2]
          exact h1
      have hpre : upto (fun j => xs.getD j ⟨#[]⟩) k ++ [xs.getD k ⟨#[]⟩] <+: upto (fun j => xs.getD j ⟨#[]⟩) xs.length := by
        rw [← upto_succ]
        exact upto_pre _ hlt
      obtain ⟨fn, tmps, assign, body, hy, hR⟩ := hY _ (xs.getD k ⟨#[]⟩) wr hpre hJs
      have HC := Aside0.mk hc
      clear hc
      generalize xs.getD k ⟨#[]⟩ = x0 at hcx hy
      gi_wp2
      refine hR.mono ?_
      rintro e W3 (⟨rfl, hJ3, hk3⟩ | ⟨rfl, hJx3⟩)
      · gi_wp2
        go_roundw
        case rel => exact ⟨k + 1, by omega, by simp, by rw [upto_succ]; exact hJ3, hnx.trans hk3⟩
        case measure => simp [intOf]; omega
      · gi_wp2
        refine bodyPost_ret (results_none rfl _ _ _) rfl ?_
        exact ⟨⟨_, rfl⟩, .inr ⟨_, hpre, hJx3⟩⟩
    · obtain rfl : k = xs.length := by omega
      gi_wp2
      go_end0
      exact ⟨⟨_, rfl⟩, .inl hJs⟩
set_option maxHeartbeats 1000000 in
/-- slices.Values: the slice is boxed; the function value holds the box. -/
theorem sval_call (a : Option Addr) (len cap : Nat) (w : World) :
    Calls Try.prog 31 #[.slice a len cap] w fun e w' => e = .returned (.func (.func 37) #[] #[.pointer (some ⟨w.heap.size, 0, none⟩)]) ∧ w' = w.alloc (.cells #[.slice a len cap] 30) := by
  go_enter Try.func31, Try.ntmps31
  go_wp2
  go_ret
  exact ⟨rfl, rfl⟩
end Go.Proofs.Ytpnnnhdhmdildaa.Given
end
section
/- The journal: how it lies in memory; its small methods. -/
set_option linter.unusedVariables false
set_option linter.unusedSimpArgs false
namespace Go.Proofs.Ytpnnnhdhmdildaa.Given
open Go.RowKit Go.Proofs.YtpnnnhdhmdildaaW.PrintWords Go.Proofs.Ytpnnnhdhmdildaa.J Go.Proofs.Ytpnnnhdhmdildaa.RF
/-- A journal in memory: its block, its disk's, its row. -/
def JAt (b q p : Nat) (v : Value) (J : JS) (w : World) : Prop :=
  b ≤ q ∧ w.heap[q]? = some (.cells #[.pointer (some ⟨p, 0, none⟩), v, .int .i64 (J.e : Int), .bool J.down] 62 (0, 0)) ∧ w.ownsRow b 9 1 v J.l.length (J.l.map Value.string)
theorem JAt.ch {S : Nat → Prop} {b q p : Nat} {v : Value} {J : JS} {w w' : World} (h : JAt b q p v J w) (hc : Ch S w w') (h1 : ¬ S q) (h2 : ∀ g, v.ownBlock = some g → ¬ S g) : JAt b q p v J w' := by
  obtain ⟨a1, a2, a3⟩ := h
  refine ⟨a1, (hc.block q (Array.getElem?_eq_some_iff.1 a2).1 h1).trans a2, a3.1, ?_⟩
  rcases a3.2 with hn | ⟨g', cap', cur, hv, hbg, hgg, rest⟩
  · exact .inl hn
  · exact .inr ⟨g', cap', cur, hv, hbg, (hc.block g' (Array.getElem?_eq_some_iff.1 hgg).1 (h2 g' (by rw [hv]; rfl))).trans hgg, rest⟩
theorem JAt.step {b q p : Nat} {v : Value} {J : JS} {w w' : World} (h : JAt b q p v J w) (hb : Below w.heap.size w w') : JAt b q p v J w' := h.ch (S := fun _ => False) (Ch.of_new hb) id (fun _ _ h => h)
theorem JAt.open {b q p : Nat} {v : Value} {J : JS} {w : World} (h : JAt b q p v J w) : w.cell? ⟨q, 0, none⟩ = some (.pointer (some ⟨p, 0, none⟩)) ∧ w.cell? ⟨q, 1, none⟩ = some v ∧ w.cell? ⟨q, 2, none⟩ = some (.int .i64 (J.e : Int)) ∧ w.cell? ⟨q, 3, none⟩ = some (.bool J.down) ∧ ∀ k, w.frozen? ⟨q, k, none⟩ = false := by
  have h3 := h.2.1
  exact ⟨by rw [Lib.cell_of_heap h3]; rfl, by rw [Lib.cell_of_heap h3]; rfl, by rw [Lib.cell_of_heap h3]; rfl, by rw [Lib.cell_of_heap h3]; rfl, fun k => Lib.frozen_of_heap h3 k⟩
theorem end_call {b q p : Nat} {v : Value} {J : JS} {w : World} (h : JAt b q p v J w) : Calls Try.prog 15 #[.pointer (some ⟨q, 0, none⟩)] w fun e w' => e = .returned (.int .i64 (J.e : Int)) ∧ Drawn0 w w' := by
  obtain ⟨c0, c1, c2, c3, f⟩ := h.open
  go_enter Try.func15, Try.ntmps15
  go_wp2
  go_ret
  exact ⟨rfl, Drawn0.refl _⟩
theorem jdisk_call {b q p : Nat} {v : Value} {J : JS} {w : World} (h : JAt b q p v J w) : Calls Try.prog 24 #[.pointer (some ⟨q, 0, none⟩)] w fun e w' => e = .returned (.pointer (some ⟨p, 0, none⟩)) ∧ Drawn0 w w' := by
  obtain ⟨c0, c1, c2, c3, f⟩ := h.open
  go_enter Try.func24, Try.ntmps24
  go_wp2
  go_ret
  exact ⟨rfl, Drawn0.refl _⟩
theorem len_call {b q p : Nat} {v : Value} {J : JS} {w : World} (h : JAt b q p v J w) : Calls Try.prog 14 #[.pointer (some ⟨q, 0, none⟩)] w fun e w' => e = .returned (.int .i64 (J.l.length : Int)) ∧ Drawn0 w w' := by
  obtain ⟨c0, c1, c2, c3, f⟩ := h.open
  obtain ⟨a, cap, hv⟩ : ∃ a cap, v = .slice a J.l.length cap := by
    rcases h.2.2.2 with ⟨hv, hn⟩ | ⟨g, cap, cur, hv, _⟩
    · exact ⟨none, 0, by rw [hv, hn]⟩
    · exact ⟨_, cap, hv⟩
  subst hv
  go_enter Try.func14, Try.ntmps14
  go_wp2
  go_ret
  exact ⟨rfl, Drawn0.refl _⟩
end Go.Proofs.Ytpnnnhdhmdildaa.Given
end
section
/- The journal: All. -/
set_option linter.unusedVariables false
set_option linter.unusedSimpArgs false
namespace Go.Proofs.Ytpnnnhdhmdildaa.Given
open Go.RowKit Go.Proofs.YtpnnnhdhmdildaaW.PrintWords Go.Proofs.Ytpnnnhdhmdildaa.J Go.Proofs.Ytpnnnhdhmdildaa.RF
attribute [local go_sem] Oper.semAt_some
set_option maxRecDepth 100000 in
set_option maxHeartbeats 1000000 in
/-- At the nil slice: no round. -/
theorem val_nil {F : Fence} {n : Nat} (h37 : F.fn 37) (hro : F.round = none) {s : Nat} {Kp : World → World → Prop} {w : World} (hs : s < w.heap.size) (hb : w.cell? ⟨s, 0, none⟩ = some (.slice none 0 0)) :
    RF.Yields F n Try.prog 37 #[.pointer (some ⟨s, 0, none⟩)] (fun _ => False) (fun x : ByteArray => #[Value.string x]) Kp [] w := by
  intro l J Jx W hW hJ hJx hY h0
  have hBs := (hW.cell (p := ⟨s, 0, none⟩) hs).trans hb
  clear hb
  refine callsIn_of_wp Try.func37 rfl h37 ?_ hro
  simp only [Try.ntmps37, List.size_toArray, List.length_cons, List.length_nil, Nat.reduceAdd, Nat.reduceSub, Array.replicate_succ, Array.replicate_zero, List.push_toArray, List.append_toArray, List.nil_append, List.cons_append]
  gi_wp2
  gi_loopw [7] (fun i wr => i = .int .i64 0 ∧ J [] wr) (fun _ _ => 0)
  case atStart => exact ⟨rfl, h0⟩
  case round =>
    obtain ⟨rfl, hJs⟩ := hrel
    gi_wp2
    go_end0
    exact ⟨⟨_, rfl⟩, .inl hJs⟩
/-- A walk of texts as it lies. -/
def VAt (B s : Nat) (l : List ByteArray) (W : World) : Prop := B ≤ s ∧ s < W.heap.size ∧ ((l = [] ∧ W.cell? ⟨s, 0, none⟩ = some (.slice none 0 0)) ∨ ∃ g, ItAt B s g l W)
set_option maxRecDepth 100000 in
set_option maxHeartbeats 2000000 in
theorem jall_call {b q p : Nat} {v : Value} {J : JS} {w : World} (h : JAt b q p v J w) (hm : J.l.length ≤ 100000) :
    Calls Try.prog 19 #[.pointer (some ⟨q, 0, none⟩)] w fun e w' => ∃ s, e = .returned (.func (.func 37) #[] #[.pointer (some ⟨s, 0, none⟩)]) ∧ VAt w.heap.size s J.l w' ∧ Below w.heap.size w w' := by
  obtain ⟨c0, c1, c2, c3, f⟩ := h.open
  have hrow := h.2.2
  rcases hrow.2 with ⟨hv, hn⟩ | ⟨g, cap, cur, hv, hbg, hgg, rest⟩
  · subst hv
    go_enter Try.func19, Try.ntmps19
    go_wp2_with (first
      | (go_at_call 32; refine (Try.slices_Clone_string_nil _ _ _).mono ?_; rintro e w1 ⟨rfl, rfl⟩)
      | (go_at_call 31; refine (sval_call _ _ _ _).mono ?_; rintro e w2 ⟨rfl, rfl⟩))
    go_ret
    refine ⟨_, rfl, ⟨Nat.le_refl _, by simp, .inl ⟨List.eq_nil_of_length_eq_zero hn, ?_⟩⟩, (Below.refl _ _).alloc (Nat.le_refl _) _⟩
    rw [Lib.cell_of_heap (World.alloc_heap_new _ _)]; rfl
  · subst hv
    have hcell : ∀ j, j < J.l.length → w.cell? ⟨g, 0 + j, none⟩ = some (.string (J.l.getD j ByteArray.empty)) := fun j hj => by
      have := hrow.cells (g := g) rfl j (.string (J.l.getD j ByteArray.empty)) (by rw [List.getElem?_map, List.getD_eq_getElem?_getD, List.getElem?_eq_getElem hj]; rfl)
      have e : (⟨g, 0, none⟩ : Addr).add j = ⟨g, j, none⟩ := by unfold Addr.add; split <;> simp_all
      rw [e] at this
      rw [Nat.zero_add]
      exact this
    have CL := Aside0.mk (Try.slices_Clone_string g 0 J.l.length cap J.l w (Nat.le_refl _) (by omega) hcell)
    rw [List.take_length] at CL
    clear hcell
    go_enter Try.func19, Try.ntmps19
    go_wp2_with (first
      | (go_at_call 32; refine CL.out.mono ?_; rintro e w1 ⟨v', rfl, ho, hnn, hb⟩; rcases ho.2 with ⟨h0, _⟩ | ⟨g2, cap2, cur2, rfl, hbg2, hg2, _, _, _, _⟩; (exact absurd h0 hnn); have HO := Aside0.mk ho; have HB := Aside0.mk hb; have HG := Aside0.mk hbg2; clear ho hb hbg2 hnn)
      | (go_at_call 31; refine (sval_call _ _ _ _).mono ?_; rintro e w2 ⟨rfl, rfl⟩))
    go_ret
    have ho := HO.out
    have hb := HB.out
    obtain ⟨l1, l2⟩ := ho.lt g2 rfl
    refine ⟨w1.heap.size, rfl, ⟨hb.size, by simp, .inr ⟨g2, ⟨hb.size, HG.out, by simp, by simp; omega, ⟨cap2, ?_⟩, fun j hj => ?_⟩⟩⟩, hb.alloc hb.size _⟩
    · rw [Lib.cell_of_heap (World.alloc_heap_new w1 _)]; rfl
    · have := ho.cells (g := g2) rfl j (.string (J.l.getD j ⟨#[]⟩)) (by rw [List.getElem?_map, List.getD_eq_getElem?_getD, List.getElem?_eq_getElem hj]; rfl)
      have e : (⟨g2, 0, none⟩ : Addr).add j = ⟨g2, j, none⟩ := by unfold Addr.add; split <;> simp_all
      rw [e] at this
      exact (((Below.refl w1.heap.size w1).alloc (Nat.le_refl _) _).cell (p := ⟨g2, j, none⟩) l2).trans this
end Go.Proofs.Ytpnnnhdhmdildaa.Given
end
section
/- The journal: Commit (begun). -/
set_option linter.unusedVariables false
set_option linter.unusedSimpArgs false
namespace Go.Proofs.Ytpnnnhdhmdildaa.Given
open Go.RowKit Go.Proofs.YtpnnnhdhmdildaaW.PrintWords Go.Proofs.Ytpnnnhdhmdildaa.J Go.Proofs.Ytpnnnhdhmdildaa.RF
/-- A journal and its disk. -/
structure JD (b q p g : Nat) (v : Value) (J : JS) (D : DS) (W : World) : Prop where
  jour : JAt b q p v J W
  disk : DiskAt b p g D W
  qp : q ≠ p
  qg : q ≠ g
  vo : ∀ x, v.ownBlock = some x → x ≠ q ∧ x ≠ p ∧ x ≠ g
theorem JD.step {b q p g : Nat} {v : Value} {J : JS} {D : DS} {W W' : World} (h : JD b q p g v J D W) (hb : Below W.heap.size W W') : JD b q p g v J D W' :=
  ⟨h.jour.step hb, h.disk.ch (S := fun _ => False) (Ch.of_new hb) id id, h.qp, h.qg, h.vo⟩
/-- The disk alone turns. -/
theorem JD.wrote {b q p g : Nat} {v : Value} {J : JS} {D D' : DS} {W W' : World} (h : JD b q p g v J D W) (hd : DiskAt b p g D' W') (hc : Ch (Own p g) W W') : JD b q p g v J D' W' :=
  ⟨h.jour.ch hc (by rintro (e | e); exact h.qp e; exact h.qg e) (fun x hx => by obtain ⟨_, n2, n3⟩ := h.vo x hx; rintro (e | e); exact n2 e; exact n3 e), hd, h.qp, h.qg, h.vo⟩
/-- What a commit may turn. -/
def JOwn (q p g : Nat) (v : Value) (i : Nat) : Prop := i = q ∨ i = p ∨ i = g ∨ v.ownBlock = some i
theorem JD.write {b q p g : Nat} {v : Value} {J : JS} {D : DS} {W : World} {r : Bool} {D' : DS} {i : Int} {data : ByteArray} (h : JD b q p g v J D W) (hD : D.Ok) (hi : (Lit.int .i64 i).wf = true) (hs : data.size ≤ 9223372036854775807) (hr : D.write i data = (r, D')) :
    Calls Try.prog 29 #[.pointer (some ⟨p, 0, none⟩), .int .i64 i, .string data] W fun e W' => e = .returned (.bool r) ∧ JD b q p g v J D' W' ∧ Ch (JOwn q p g v) W W' :=
  (write_call h.disk hD i data hi hs).mono fun e W' k => by rw [hr] at k; exact ⟨k.1, h.wrote k.2.1 k.2.2, k.2.2.mono (fun i _ hs => by rcases hs with e | e; exact .inr (.inl e); exact .inr (.inr (.inl e)))⟩
end Go.Proofs.Ytpnnnhdhmdildaa.Given
end
section
/- The journal: Commit, where nothing is written. -/
set_option linter.unusedVariables false
set_option linter.unusedSimpArgs false
namespace Go.Proofs.Ytpnnnhdhmdildaa.Given
open Go.RowKit Go.Proofs.YtpnnnhdhmdildaaW.PrintWords Go.Proofs.Ytpnnnhdhmdildaa.J Go.Proofs.Ytpnnnhdhmdildaa.RF
theorem sec_q {b q p g : Nat} {v : Value} {J : JS} {D : DS} {W : World} (h : JD b q p g v J D W) (n : Nat) : Calls Try.prog 28 #[.pointer (some ⟨p, 0, none⟩)] (W.drewN n) fun e w' => e = .returned (.int .i64 (D.secs.length : Int)) ∧ ∃ m, w' = W.drewN m :=
  Calls.quiet_of ((sectors_call (h.disk.ch (S := fun _ => False) (Ch.of_new (Drawn0.below ⟨⟨n, rfl⟩⟩)) id id)).mono fun e w' k => ⟨k.1, k.2.out⟩)
set_option maxRecDepth 100000 in
set_option maxHeartbeats 1000000 in
theorem commit_down {b q p g : Nat} {v : Value} {J : JS} {D : DS} {w : World} (h : JD b q p g v J D w) (hd : J.down = true) (s : ByteArray) :
    Calls Try.prog 11 #[.pointer (some ⟨q, 0, none⟩), .string s] w fun e w' => e = .returned (.int .i64 9) ∧ JD b q p g v J D w' ∧ Below w.heap.size w w' := by
  obtain ⟨c0, c1, c2, c3, f⟩ := h.jour.open
  rw [hd] at c3
  have H := Aside0.mk h
  go_enter Try.func11, Try.ntmps11
  go_wp2
  go_ret
  exact ⟨rfl, H.out, Below.refl _ _⟩
set_option maxRecDepth 100000 in
set_option maxHeartbeats 1000000 in
theorem commit_full (PT : ∀ (s : ByteArray) (w : World), s.size ≤ 1000000 → Calls Try.prog 16 #[.string s] w fun e w' => ∃ v, e = .returned v ∧ OwnP w v (piecesL s) w')
    {b q p g : Nat} {v : Value} {J : JS} {D : DS} {w : World} (h : JD b q p g v J D w) (hD : D.Ok) (hd : J.down = false) (he : J.e ≤ 2000) (s : ByteArray) (hs : s.size ≤ 1000000) (hf : (D.secs.length : Int) - J.e < ((piecesL s).length : Int)) :
    Calls Try.prog 11 #[.pointer (some ⟨q, 0, none⟩), .string s] w fun e w' => e = .returned (.int .i64 6) ∧ JD b q p g v J D w' ∧ Below w.heap.size w w' := by
  obtain ⟨c0, c1, c2, c3, f⟩ := h.jour.open
  rw [hd] at c3
  have H := Aside0.mk h
  have P := Aside0.mk PT
  clear PT
  have hm := hD.most
  have ws : IntKind.i64.wrap ((D.secs.length : Int) - (J.e : Int)) = (D.secs.length : Int) - (J.e : Int) := IntWalk.i64_in _ (by omega)
  obtain ⟨n, hn⟩ : ∃ n, (piecesL s).length = n := ⟨_, rfl⟩
  rw [hn] at hf
  have q1 : decide ((D.secs.length : Int) - (J.e : Int) < (n : Int)) = true := decide_eq_true hf
  go_enter Try.func11, Try.ntmps11
  go_wp2_with (go_at_call 16; refine (P.out s _ hs).mono ?_; rintro e w1 ⟨v1, rfl, ho⟩; have HO := Aside0.mk ho; have H1 := Aside0.mk (H.out.step ho.below); obtain ⟨c0, c1, c2, c3, f⟩ := H1.out.jour.open; obtain ⟨a1, cap1, hv1⟩ : ∃ a cap, v1 = .slice a n cap := (by rw [← hn]; rcases ho.row.2 with ⟨hv, hn⟩ | ⟨g, cap, cur, hv, _⟩; exact ⟨none, 0, by rw [hv, hn]⟩; exact ⟨_, cap, hv⟩); subst hv1; clear ho)
  go_quiet ((go_at_call 28; exact sec_q H1.out _))
  go_wp2
  go_ret
  exact ⟨rfl, H1.out.step (Drawn0.below ⟨⟨nq, rfl⟩⟩), HO.out.below.trans ((Drawn0.below ⟨⟨nq, rfl⟩⟩).mono HO.out.below.size)⟩
end Go.Proofs.Ytpnnnhdhmdildaa.Given
end
section
/- The journal: a piece. -/
set_option linter.unusedVariables false
set_option linter.unusedSimpArgs false
namespace Go.Proofs.Ytpnnnhdhmdildaa.Given
open Go.RowKit Go.Proofs.YtpnnnhdhmdildaaW.PrintWords
theorem conv1 (b : Nat) (c : Int) (W : World) (h : W.cell? ⟨b, 0, none⟩ = some (.int .u8 c)) : (convert 37 9 (.slice (some ⟨b, 0, none⟩) 1 1)).run Try.prog W =
    .ok (.string (strOfNums [c])) W := by
  refine run_convert_bytes_arg _ 37 5 Try.underlying37 Try.underlying5 b 0 1 1 [c] (by simp) (fun i hi => ?_) 9 Try.underlying9
  obtain rfl : i = 0 := by omega
  exact h
theorem bl {n : Nat} {w W w' : World} (hb : Below W.heap.size W w') (h : Below n w W) (hn : n ≤ w.heap.size) : Below n w w' := h.trans (hb.mono (Nat.le_trans hn h.size))
theorem bdrew {n : Nat} {w W : World} (h : Below n w W) : Below n w W.drew := ⟨h.os, h.tape, h.output, h.size, h.block⟩
theorem balloc {n : Nat} {w W : World} (o : Obj) (h : Below n w W) (hn : n ≤ w.heap.size) : Below n w (W.alloc o) := h.alloc (Nat.le_trans hn h.size) o
set_option maxRecDepth 100000 in
set_option maxHeartbeats 16000000 in
theorem piece_call (s : ByteArray) (m : Int) (w : World) (hs : s.size ≤ 30) :
    Calls Try.prog 30 #[.string s, .int .u8 m] w fun e w' => e = .returned (.string (strOfNums [(s.size : Int)] ++ s ++ ⟨(List.replicate (30 - s.size) (0 : UInt8)).toArray⟩ ++ strOfNums [m])) ∧ Below w.heap.size w w' := by
  obtain ⟨c, hc⟩ : ∃ c : Nat, 30 - s.size = c := ⟨_, rfl⟩
  have hr : (⟨(Lib.repeatL (⟨#[0]⟩ : ByteArray).data.toList c).toArray⟩ : ByteArray) = ⟨(List.replicate (30 - s.size) (0 : UInt8)).toArray⟩ := by
    rw [hc]
    have := Lib.repeatL_replicate 0 1 c
    simp only [Nat.mul_one] at this
    exact congrArg (fun l : List UInt8 => (⟨l.toArray⟩ : ByteArray)) this
  have HR := Aside0.mk (fun W => Try.strings_Repeat ⟨#[0]⟩ c W (by omega) (by show 1 * c ≤ _; omega))
  rw [← hr]
  have hz : (⟨(Lib.repeatL (⟨#[0]⟩ : ByteArray).data.toList c).toArray⟩ : ByteArray).size ≤ 30 := by
    rw [hr]
    show ((List.replicate (30 - s.size) (0 : UInt8)).toArray).size ≤ 30
    rw [List.size_toArray, List.length_replicate]
    omega
  generalize (⟨(Lib.repeatL (⟨#[0]⟩ : ByteArray).data.toList c).toArray⟩ : ByteArray) = z at HR hz ⊢
  have hcc : 30 - (s.size : Int) = (c : Int) := by omega
  have hcw : IntKind.i64.wrap (c : Int) = (c : Int) := IntWalk.i64_in _ (by omega)
  have hu : IntKind.u8.wrap (s.size : Int) = (s.size : Int) := IntWalk.u8_in _ (by omega)
  have c1 := fun (b : Nat) (W : World) => conv1 b (s.size : Int) W
  have c2 := fun (b : Nat) (W : World) => conv1 b m W
  have l1 : (strOfNums [(s.size : Int)]).size ≤ 1 := Nat.le_refl 1
  have l2 : (strOfNums [m]).size ≤ 1 := Nat.le_refl 1
  generalize strOfNums [(s.size : Int)] = n1 at c1 l1 ⊢
  generalize strOfNums [m] = n2 at c2 l2 ⊢
  clear hr
  have k1 : ∀ A B : Result Next, (if 9223372036854775807 < n1.size + s.size then A else B) = B := fun A B => if_neg (by omega)
  have k2 : ∀ A B : Result Next, (if 9223372036854775807 < n1.size + s.size + z.size then A else B) = B := fun A B => if_neg (by omega)
  have k3 : ∀ A B : Result Next, (if 9223372036854775807 < n1.size + s.size + z.size + n2.size then A else B) = B := fun A B => if_neg (by omega)
  go_enter Try.func30, Try.ntmps30
  go_wp2
  go_region_held_law (fun _ => True) (trivial) ((go_at_call 36; (with_reducible refine (HR.out _).mono ?_); rintro e w' ⟨rfl, hb⟩; have HB := Aside0.mk hb; have HX := fun (b : Nat) (h : b < _) => hb.cell (p := ⟨b, 0, none⟩) h; (try have hl1 : w.heap.size < w'.heap.size := (by have := hb.size; simp at this; omega)); (try have hl2 : w.heap.size + 1 < w'.heap.size := (by have := hb.size; simp at this; omega)); (try have hl3 : w.heap.size ≠ w'.heap.size := (by have := hb.size; simp at this; omega)); (try have hl4 : w.heap.size + 1 ≠ w'.heap.size := (by have := hb.size; simp at this; omega)); (try (have h0 := HX w.heap.size; simp [go_sem] at h0)); (try (have h1 := HX (w.heap.size + 1); simp [go_sem] at h1)); clear hb HX))
  all_goals go_wp2
  all_goals go_ret
  all_goals clear HR c1 c2 k1 k2 k3
  all_goals refine ⟨rfl, ?_⟩
  all_goals repeat' (first | exact Nat.le_refl _ | exact Below.refl _ _ | refine bl HB.out ?_ ?_ | refine balloc _ ?_ ?_ | refine bdrew ?_)
theorem PC (s : ByteArray) (m : Nat) (w : World) (hs : s.size ≤ 30) (hm : m ≤ 255) : Calls Try.prog 30 #[.string s, .int .u8 (m : Int)] w fun e w' => e = .returned (.string (J.pieceS s (UInt8.ofNat m))) ∧ Below w.heap.size w w' := by
  have e : strOfNums [(s.size : Int)] ++ s ++ ⟨(List.replicate (30 - s.size) (0 : UInt8)).toArray⟩ ++ strOfNums [(m : Int)] = J.pieceS s (UInt8.ofNat m) := rfl
  rw [← e]
  exact piece_call s m w hs
theorem PT (s : ByteArray) (w : World) (hs : s.size ≤ 1000000) : Calls Try.prog 16 #[.string s] w fun e w' => ∃ v, e = .returned v ∧ OwnP w v (J.piecesL s) w' := pieces_call PC s w hs
end Go.Proofs.Ytpnnnhdhmdildaa.Given
end
