import Derived.Test.YtpnnnhdhmdildaaJnA
import Derived.Test.YtpnnnhdhmdildaaPJ
import Derived.Test.YtpnnnhdhmdildaaApp
import Derived.Deep.AppendLies
import Derived.Test.YtpnnnhdhmdildaaRfA
section
/- The journal: Commit, where pieces are written. -/
set_option linter.unusedVariables false
set_option linter.unusedSimpArgs false
namespace Go.Proofs.Ytpnnnhdhmdildaa.Given
open Go.RowKit Go.Proofs.YtpnnnhdhmdildaaW.PrintWords Go.Proofs.Ytpnnnhdhmdildaa.J Go.Proofs.Ytpnnnhdhmdildaa.RF
theorem write_ok {D : DS} (hD : D.Ok) (hl : -4611686018427387904 < D.left) (i : Int) (data : ByteArray) : (D.write i data).2.Ok := by
  unfold DS.write
  by_cases hf : D.fits i data
  · rw [if_pos hf]
    obtain ⟨_, h1, h2, h3⟩ := hf
    have hw := wholeS_size data h3
    have hk : i.toNat < D.secs.length := by omega
    have hg : (D.secs.getD i.toNat ⟨#[]⟩).size = 32 := by
      rw [List.getD_eq_getElem?_getD, List.getElem?_eq_getElem hk]
      exact hD.size _ (List.getElem_mem hk)
    have k0 := hD.keep0
    have k1 := hD.keep1
    have l1 := hD.left1
    split
    · refine ⟨by simpa using hD.one, by simpa using hD.most, fun s hs => ?_, hD.keep0, hD.keep1, hD.left0, hD.left1⟩
      rcases List.mem_or_eq_of_mem_set hs with hs | rfl
      · exact hD.size s hs
      · rw [ByteArray.size_append, ByteArray.size_extract, ByteArray.size_extract, hw, hg]
        omega
    · refine ⟨by simpa using hD.one, by simpa using hD.most, fun s hs => ?_, hD.keep0, hD.keep1, ?_, ?_⟩
      · rcases List.mem_or_eq_of_mem_set hs with hs | rfl
        · exact hD.size s hs
        · exact hw
      · show -4611686018427387904 ≤ D.left - 1
        omega
      · show D.left - 1 ≤ 9223372036854775807
        omega
  · rw [if_neg hf]
    exact hD
theorem write_len (D : DS) (i : Int) (data : ByteArray) : (D.write i data).2.secs.length = D.secs.length := J.wlenJ D i data
theorem write_left (D : DS) (i : Int) (data : ByteArray) : D.left - 1 ≤ (D.write i data).2.left := by
  unfold DS.write
  split
  · split
    · show D.left - 1 ≤ D.left; omega
    · show D.left - 1 ≤ D.left - 1; omega
  · show D.left - 1 ≤ D.left; omega
theorem wfJ {n : Int} (h0 : -9223372036854775808 ≤ n) (h1 : n ≤ 9223372036854775807) : (Lit.int .i64 n).wf = true := by
  simp only [Lit.wf, Bool.and_eq_true, decide_eq_true_eq]
  exact ⟨h0, h1⟩
theorem commitW_step {D : DS} {k : Nat} {p : ByteArray} {r : List ByteArray} : commitW D k (p :: r) = if (D.write (k : Int) p).1 = true then commitW (D.write (k : Int) p).2 (k + 1) r else (false, (D.write (k : Int) p).2) := rfl
theorem commitW_at {D : DS} {e i : Nat} {ps : List ByteArray} (hi : i < ps.length) {r : Bool} {D2 : DS} (hw : D.write ((e : Int) + (i : Int)) (ps.getD i ⟨#[]⟩) = (r, D2)) :
    commitW D (e + i) (ps.drop i) = if r = true then commitW D2 (e + (i + 1)) (ps.drop (i + 1)) else (false, D2) := by
  have hd : ps.drop i = ps.getD i ⟨#[]⟩ :: ps.drop (i + 1) := by
    rw [List.drop_eq_getElem_cons hi, List.getD_eq_getElem?_getD, List.getElem?_eq_getElem hi]
    rfl
  rw [hd, commitW_step, show ((e + i : Nat) : Int) = (e : Int) + (i : Int) by omega, hw]
  rfl
/-- The pieces' row. -/
structure PRow (B : Nat) (v : Value) (ps : List ByteArray) (W : World) : Prop where
  row : W.ownsRow B 9 1 v ps.length (ps.map Value.string)
  size : B ≤ W.heap.size
theorem PRow.ch {S : Nat → Prop} {B : Nat} {v : Value} {ps : List ByteArray} {W W' : World} (h : PRow B v ps W) (hc : Ch S W W') (hS : ∀ g, B ≤ g → ¬ S g) : PRow B v ps W' := ⟨own_ch h.row hc (fun g h1 _ => hS g h1), Nat.le_trans h.size hc.size⟩
theorem PRow.step {B : Nat} {v : Value} {ps : List ByteArray} {W W' : World} (h : PRow B v ps W) (hb : Below W.heap.size W W') : PRow B v ps W' := h.ch (S := fun _ => False) (Ch.of_new hb) (fun _ _ h => h)
theorem PRow.cell {B : Nat} {g n cap : Nat} {ps : List ByteArray} {W : World} (h : PRow B (.slice (some ⟨g, 0, none⟩) n cap) ps W) {i : Nat} (hi : i < ps.length) : W.cell? ⟨g, i, none⟩ = some (.string (ps.getD i ⟨#[]⟩)) := by
  have := h.row.cells (g := g) rfl i (.string (ps.getD i ⟨#[]⟩)) (by rw [List.getElem?_map, List.getD_eq_getElem?_getD, List.getElem?_eq_getElem hi]; rfl)
  have e : (⟨g, 0, none⟩ : Addr).add i = ⟨g, i, none⟩ := by unfold Addr.add; split <;> simp_all
  rwa [e] at this
theorem JD.own {b q p g : Nat} {v : Value} {J : JS} {D : DS} {W : World} (h : JD b q p g v J D W) : ∀ i, JOwn q p g v i → i < W.heap.size := by
  rintro i (rfl | rfl | rfl | e)
  · exact (Array.getElem?_eq_some_iff.1 h.jour.2.1).1
  · exact h.disk.g.2.2.1
  · exact h.disk.g.2.1
  · exact (h.jour.2.2.lt i e).2
/-- The journal goes down. -/
theorem JD.fall {b q p g : Nat} {v : Value} {J : JS} {D : DS} {W : World} (h : JD b q p g v J D W) : JD b q p g v ⟨J.l, J.e, true⟩ D (W.setCell ⟨q, 3, none⟩ (.bool true)) ∧ Ch (JOwn q p g v) W (W.setCell ⟨q, 3, none⟩ (.bool true)) := by
  refine ⟨⟨⟨h.jour.1, ?_, ?_⟩, ?_, h.qp, h.qg, h.vo⟩, (Ch.refl _ W).set _ (.inl rfl) _⟩
  · rw [Go.Joins.block_setCell h.jour.2.1]
    rfl
  · exact ownsRow_setCell_other h.jour.2.2 (fun e => (h.vo q e).1 rfl) _
  · exact h.disk.ch (S := fun i => i = q) ((Ch.refl (fun i => i = q) W).set ⟨q, 3, none⟩ rfl _) (fun e => h.qp e.symm) (fun e => h.qg e.symm)
theorem grown_ch {W W' : World} {row : Option Nat} (hg : W.grownBy W' row) : Ch (fun i => row = some i) W W' := ⟨hg.os, hg.tape, hg.output, hg.size, fun i hi hs => hg.block i hi fun e => hs e.symm⟩
/-- A text is appended to the journal's row. -/
theorem JD.grown {b q p g : Nat} {v : Value} {J : JS} {D : DS} {W W1 W5 : World} (h : JD b q p g v J D W) (hb : Below W.heap.size W W1) (hg : W1.grownBy W5 v.ownBlock) :
    W5.heap[q]? = some (.cells #[.pointer (some ⟨p, 0, none⟩), v, .int .i64 (J.e : Int), .bool J.down] 62 (0, 0)) ∧ DiskAt b p g D W5 ∧ Ch (JOwn q p g v) W W5 := by
  have hc : Ch (fun i => v.ownBlock = some i) W W5 := (Ch.of_new hb).trans (grown_ch hg)
  refine ⟨(hc.block q (Array.getElem?_eq_some_iff.1 h.jour.2.1).1 (fun e => (h.vo q e).1 rfl)).trans h.jour.2.1, h.disk.ch hc (fun e => (h.vo p e).2.1 rfl) (fun e => (h.vo g e).2.2 rfl), hc.mono fun i _ e => .inr (.inr (.inr e))⟩
theorem JD.more {b q p g : Nat} {v v1 : Value} {J : JS} {D : DS} {W W1 W5 : World} {s : ByteArray} {n : Nat} (h : JD b q p g v J D W) (hb : Below W.heap.size W W1) (hg : W1.grownBy W5 v.ownBlock) (hd : J.down = false)
    (hown : W5.ownsRow b 9 1 v1 (J.l ++ [s]).length ((J.l ++ [s]).map Value.string)) (hat : v1.ownBlock = v.ownBlock ∨ v1.ownBlock = some W1.heap.size) :
    JD b q p g v1 ⟨J.l ++ [s], n, false⟩ D ((W5.setCell ⟨q, 1, none⟩ v1).setCell ⟨q, 2, none⟩ (.int .i64 (n : Int))) ∧ Ch (JOwn q p g v) W ((W5.setCell ⟨q, 1, none⟩ v1).setCell ⟨q, 2, none⟩ (.int .i64 (n : Int))) := by
  obtain ⟨h1, h2, h3⟩ := h.grown hb hg
  have l1 : q < W.heap.size := (Array.getElem?_eq_some_iff.1 h.jour.2.1).1
  have l2 := h.disk.g
  have hs := hb.size
  have hvo : ∀ x, v1.ownBlock = some x → x ≠ q ∧ x ≠ p ∧ x ≠ g := fun x hx => by
    rcases hat with e | e
    · exact h.vo x (e.symm.trans hx)
    · rw [e] at hx; cases hx; omega
  have hqs : ∀ k u, Ch (fun i => i = q) W5 (W5.setCell ⟨q, k, none⟩ u) := fun k u => (Ch.refl (fun i => i = q) W5).set ⟨q, k, none⟩ rfl u
  refine ⟨⟨⟨h.jour.1, ?_, ?_⟩, ?_, h.qp, h.qg, hvo⟩, (h3.set ⟨q, 1, none⟩ (.inl rfl) _).set ⟨q, 2, none⟩ (.inl rfl) _⟩
  · rw [Go.Joins.block_setCell (Go.Joins.block_setCell h1 _)]
    rw [hd]
    rfl
  · exact ownsRow_setCell_other (ownsRow_setCell_other hown (fun e => (hvo q e).1 rfl) _) (fun e => (hvo q e).1 rfl) _
  · exact h2.ch (S := fun i => i = q) ((hqs 1 v1).set ⟨q, 2, none⟩ rfl _) (fun e => h.qp e.symm) (fun e => h.qg e.symm)
/-- What Commit leaves. -/
def CommitPost (b q p g : Nat) (v : Value) (J : JS) (D : DS) (s : ByteArray) (w : World) (e : Ending) (w' : World) : Prop :=
  e = .returned (.int .i64 (J.commit D s).1) ∧ ∃ v', JD b q p g v' (J.commit D s).2.1 (J.commit D s).2.2 w' ∧ Ch (JOwn q p g v) w w' ∧ (v'.ownBlock = v.ownBlock ∨ ∀ x, v'.ownBlock = some x → w.heap.size ≤ x)
theorem own_len {W : World} {B n : Nat} {v : Value} {xs : List Value} (h : W.ownsRow B 9 1 v n xs) : ∃ a cap, v = .slice a n cap := by
  rcases h.2 with ⟨hv, hn⟩ | ⟨g, cap, cur, hv, _⟩
  · exact ⟨none, 0, by rw [hv, hn]⟩
  · exact ⟨_, cap, hv⟩
theorem own_len1 {W : World} {B : Nat} {v : Value} {xs : List Value} {l : List ByteArray} {s : ByteArray} (h : W.ownsRow B 9 1 v (l ++ [s]).length xs) : ∃ a cap, v = .slice a (l.length + 1) cap := by
  obtain ⟨a, cap, e⟩ := own_len h
  exact ⟨a, cap, by rw [e]; simp⟩
set_option maxRecDepth 100000 in
set_option maxHeartbeats 4000000 in
theorem commit_write {b q p g : Nat} {v : Value} {J : JS} {D : DS} {w : World} (h : JD b q p g v J D w) (hD : D.Ok) (hll : -4611686018427387904 + 2001 ≤ D.left) (hd : J.down = false) (he : J.e ≤ 2000) (hJl : J.l.length ≤ 2000) (s : ByteArray) (hs : s.size ≤ 60000) (hf : ¬ (D.secs.length : Int) - J.e < ((piecesL s).length : Int)) :
    Calls Try.prog 11 #[.pointer (some ⟨q, 0, none⟩), .string s] w (CommitPost b q p g v J D s w) := by
  obtain ⟨c0, c1, c2, c3, f⟩ := h.jour.open
  rw [hd] at c3
  have H := Aside0.mk h
  have P := Aside0.mk PT
  have hm := hD.most
  have ws : IntKind.i64.wrap ((D.secs.length : Int) - (J.e : Int)) = (D.secs.length : Int) - (J.e : Int) := IntWalk.i64_in _ (by omega)
  have HC0 : Aside0 (J.commit D s = if (commitW D J.e (piecesL s)).1 = true then (0, ⟨J.l ++ [s], J.e + (piecesL s).length, false⟩, (commitW D J.e (piecesL s)).2) else (9, ⟨J.l, J.e, true⟩, (commitW D J.e (piecesL s)).2)) := ⟨by unfold JS.commit; rw [if_neg (by rw [hd]; decide), if_neg hf]⟩
  obtain ⟨n, hn⟩ : ∃ n, (piecesL s).length = n := ⟨_, rfl⟩
  have hps := Aside0.mk (pieces_size s.size s (Nat.le_refl _))
  rw [hn] at hf HC0
  generalize hpl : piecesL s = ps at hn hps HC0
  have HPL := Aside0.mk hpl
  have HN := Aside0.mk hn
  have q1 : decide ((D.secs.length : Int) - (J.e : Int) < (n : Int)) = false := decide_eq_false hf
  clear h hpl hn
  go_enter Try.func11, Try.ntmps11
  go_wp2_with (go_at_call 16; refine (P.out s _ (by omega)).mono ?_; rintro e w1 ⟨v1, rfl, ho⟩; rw [HPL.out] at ho; obtain ⟨a1, cap1, hv1⟩ := own_len ho.row; rw [HN.out] at hv1; subst hv1; have HB := Aside0.mk ho.below; have HR0 := Aside0.mk (PRow.mk ho.row ho.below.size); have H1 := Aside0.mk (H.out.step ho.below); obtain ⟨c0, c1, c2, c3, f⟩ := H1.out.jour.open; rw [hd] at c3; clear ho)
  go_quiet ((go_at_call 28; exact sec_q H1.out _))
  go_wp2
  have HJ := Aside0.mk (H1.out.step (Drawn0.below ⟨⟨nq, rfl⟩⟩))
  have HR := Aside0.mk (HR0.out.step (Drawn0.below ⟨⟨nq, rfl⟩⟩))
  have HX := Aside0.mk (show Ch (JOwn q p g v) w (w1.drewN nq) from (Ch.of_new HB.out).trans (Ch.of_drawn ⟨⟨nq, rfl⟩⟩))
  clear c0 c1 c2 c3 f H1 HR0 HB
  generalize w1.drewN nq = w2 at HJ HR HX ⊢
  go_loopw [29] (fun v29 wr => ∃ (i : Nat) (D' : DS), v29 = .int .i64 (i : Int) ∧ i ≤ n ∧ D'.Ok ∧ D'.secs.length = D.secs.length ∧ D.left - i ≤ D'.left ∧ Aside0 (commitW D J.e ps = commitW D' (J.e + i) (ps.drop i)) ∧ Aside0 (JD b q p g v J D' wr) ∧ Aside0 (PRow w.heap.size (.slice a1 n cap1) ps wr) ∧ Aside0 (Ch (JOwn q p g v) w wr)) (fun v _ => n - (intOf v).toNat)
  case atStart => exact ⟨0, D, rfl, by omega, hD, rfl, by omega, ⟨rfl⟩, HJ, HR, HX⟩
  case round =>
    clear HJ HR HX
    obtain ⟨i, D', rfl, hi, hD', hl', hleft, HC, HJ, HR, HX⟩ := hrel
    by_cases hlt : i < n
    · obtain ⟨x, hx⟩ : ∃ x, ps.getD i ⟨#[]⟩ = x := ⟨_, rfl⟩
      have hil : i < ps.length := by rw [HN.out]; exact hlt
      have hxs : x.size = 32 := by rw [← hx]; exact getD_size hps.out hil
      obtain ⟨g1, hg1⟩ : ∃ g1, a1 = some ⟨g1, 0, none⟩ := by
        rcases HR.out.row.2 with ⟨hv, hn0⟩ | ⟨g1, cap, cur, hv, _⟩
        · omega
        · cases hv; exact ⟨g1, rfl⟩
      subst hg1
      have hcx := HR.out.cell hil
      rw [hx] at hcx
      obtain ⟨c0, c1, c2, c3, f⟩ := HJ.out.jour.open
      have we : IntKind.i64.wrap ((J.e : Int) + (i : Int)) = (J.e : Int) + (i : Int) := IntWalk.i64_in _ (by omega)
      obtain ⟨⟨r, D2⟩, hr⟩ : ∃ z, D'.write ((J.e : Int) + (i : Int)) x = z := ⟨_, rfl⟩
      have HW := Aside0.mk hr
      have HK := Aside0.mk (commitW_at (D := D') (e := J.e) (i := i) (r := r) (D2 := D2) hil (by rw [hx]; exact hr))
      have hok := write_ok hD' (by omega) ((J.e : Int) + (i : Int)) x
      have hle2 := write_len D' ((J.e : Int) + (i : Int)) x
      have hlf2 := write_left D' ((J.e : Int) + (i : Int)) x
      rw [hr] at hok hle2 hlf2
      dsimp only at hok hle2 hlf2
      clear hx hr
      go_wp2
      go_still_tail 11, (by kernel_rfl)
      change wpList _ _ _ _ _ wr.drew
      have HD := Aside0.mk (HJ.out.step (W' := wr.drew) (Drawn0.below ⟨⟨1, rfl⟩⟩))
      have HE := Aside0.mk (HR.out.step (W' := wr.drew) (Drawn0.below ⟨⟨1, rfl⟩⟩))
      have HY := Aside0.mk (show Ch (JOwn q p g v) w wr.drew from HX.out.trans (Ch.of_drawn ⟨⟨1, rfl⟩⟩))
      clear HJ HR HX c0 c1 c2 c3 f hcx
      have hfar : Aside0 (∀ k, w.heap.size ≤ k → ¬ JOwn q p g v k) := ⟨fun k hk ho => by have := H.out.own k ho; omega⟩
      cases r with
      | true =>
        go_wp2_with (go_at_call 29; refine (HD.out.write hD' (wfJ (by omega) (by omega)) (by omega) HW.out).mono ?_; rintro e w3 ⟨rfl, h1, h2⟩; have HF := Aside0.mk h1; have HG := Aside0.mk (HY.out.trans h2); have HI := Aside0.mk (HE.out.ch h2 hfar.out); clear h1 h2)
        go_roundw
        case rel => exact ⟨i + 1, D2, by go_num, by omega, hok, by omega, by omega, ⟨by rw [HC.out, HK.out]; rfl⟩, HF, HI, HG⟩
        case measure => simp [intOf]; omega
      | false =>
        go_wp2_with (go_at_call 29; refine (HD.out.write hD' (wfJ (by omega) (by omega)) (by omega) HW.out).mono ?_; rintro e w3 ⟨rfl, h1, h2⟩; have HF := Aside0.mk h1; have HG := Aside0.mk (HY.out.trans h2); obtain ⟨c0, c1, c2, c3, f⟩ := h1.jour.open; have f3 := f 3; clear h1 h2)
        go_ret
        have hz := HF.out.fall
        have hcm : J.commit D s = (9, ⟨J.l, J.e, true⟩, D2) := by rw [HC0.out, HC.out, HK.out]; rfl
        unfold CommitPost
        rw [hcm]
        exact ⟨rfl, v, hz.1, HG.out.trans hz.2, .inl rfl⟩
    · obtain rfl : i = n := by omega
      have hcm : J.commit D s = (0, ⟨J.l ++ [s], J.e + i, false⟩, D') := by
        rw [HC0.out, HC.out, List.drop_of_length_le (by rw [HN.out]; exact Nat.le_refl _)]
        rfl
      have HCM := Aside0.mk hcm
      clear hcm HC HC0
      obtain ⟨i0, hi0, hz0, hz1, hz2⟩ : ∃ i0, Try.prog.info? 9 = some i0 ∧ i0.zero = some (.string ⟨#[]⟩) ∧ i0.size = 1 ∧ i0.bytes = 16 := by
        have h := info9
        cases hh : Try.prog.info? 9 with
        | none => rw [hh] at h; cases h
        | some i => rw [hh] at h; simp at h; exact ⟨i, rfl, h.1, h.2.1, h.2.2⟩
      have HI := Aside0.mk hi0
      have HZ0 := Aside0.mk hz0
      have HZ1 := Aside0.mk hz1
      have HZ2 := Aside0.mk hz2
      obtain ⟨c0, c1, c2, c3, f⟩ := HJ.out.jour.open
      obtain ⟨ei, hei⟩ : ∃ ei, J.e + i = ei := ⟨_, rfl⟩
      have we2 : (J.e : Int) + (i : Int) = (ei : Int) := by omega
      have we : IntKind.i64.wrap (ei : Int) = (ei : Int) := IntWalk.i64_in _ (by omega)
      rw [hei] at HCM
      clear hei
      have hbl : Aside0 (Below wr.heap.size wr (wr.alloc (.cells #[.string s] 9)).drew) := ⟨bdrew ((Below.refl _ wr).alloc (Nat.le_refl _) _)⟩
      have e1 : (wr.alloc (.cells #[.string s] 9)).cell? ⟨q, 1, none⟩ = some v := pw_cell_below hbl.out c1
      have e2 : (wr.alloc (.cells #[.string s] 9)).cell? ⟨q, 2, none⟩ = some (.int .i64 (J.e : Int)) := pw_cell_below hbl.out c2
      have HO := Aside0.mk (HJ.out.step hbl.out).jour.2.2
      have hr1 := Aside0.mk (RdS.one (W := (wr.alloc (.cells #[.string s] 9)).drew) (b := wr.heap.size) (x := s) (World.alloc_heap_new wr _))
      have hbs : Aside0 (b ≤ (wr.alloc (.cells #[.string s] 9)).drew.heap.size) := ⟨Nat.le_trans HJ.out.jour.1 (Nat.le_trans (Nat.le_of_lt (Array.getElem?_eq_some_iff.1 HJ.out.jour.2.1).1) hbl.out.size)⟩
      clear hi0 hz0 hz1 hz2
      go_wp2
      go_region_law ((refine step_app b rfl (.tmp 56) (.tmp 58) 30 i0 rfl Try.underlying30 HI.out HZ0.out HZ1.out HZ2.out v J.l [s] (some ⟨wr.heap.size, 0, none⟩) 1 1 (by rfl) (by rfl) HO.out hr1.out hbs.out (by omega) ?_; intro v1 w5 hown hgrow hat; obtain ⟨a7, cap7, hv7⟩ := own_len1 hown; subst hv7; have HG := Aside0.mk hgrow; have HOW := Aside0.mk hown; have HAT := Aside0.mk hat; have hq5 := (HJ.out.grown hbl.out hgrow).1; have d1 := (Lib.cell_of_heap hq5 1).trans rfl; have d2 := (Lib.cell_of_heap hq5 2).trans rfl; have f1 := Lib.frozen_of_heap hq5 1; have f2 := Lib.frozen_of_heap hq5 2; clear hown hgrow hat hq5))
      all_goals go_wp2
      all_goals go_ret
      all_goals
        have hz := JD.more (n := ei) HJ.out hbl.out HG.out hd HOW.out HAT.out
        unfold CommitPost
        rw [HCM.out]
        exact ⟨rfl, _, hz.1, HX.out.trans hz.2, HAT.out.imp id (fun e x hx => by rw [e] at hx; cases hx; exact Nat.le_trans HX.out.size hbl.out.size)⟩
theorem commit_call {b q p g : Nat} {v : Value} {J : JS} {D : DS} {w : World} (h : JD b q p g v J D w) (hD : D.Ok) (hll : -4611686018427387904 + 2001 ≤ D.left) (he : J.e ≤ 2000) (hJl : J.l.length ≤ 2000) (s : ByteArray) (hs : s.size ≤ 60000) :
    Calls Try.prog 11 #[.pointer (some ⟨q, 0, none⟩), .string s] w (CommitPost b q p g v J D s w) := by
  by_cases hd : J.down = true
  · refine (commit_down h hd s).mono fun e w' k => ?_
    have hc : J.commit D s = (9, J, D) := by unfold JS.commit; rw [if_pos hd]
    unfold CommitPost
    rw [hc]
    exact ⟨k.1, v, k.2.1, Ch.of_new k.2.2, .inl rfl⟩
  · have hd' : J.down = false := by simpa using hd
    by_cases hf : (D.secs.length : Int) - J.e < ((piecesL s).length : Int)
    · refine (commit_full PT h hD hd' he s (by omega) hf).mono fun e w' k => ?_
      have hc : J.commit D s = (6, J, D) := by unfold JS.commit; rw [if_neg hd, if_pos hf]
      unfold CommitPost
      rw [hc]
      exact ⟨k.1, v, k.2.1, Ch.of_new k.2.2, .inl rfl⟩
    · exact commit_write h hD hll hd' he hJl s hs hf
end Go.Proofs.Ytpnnnhdhmdildaa.Given
end
section
/- The journal: Open: what its walk carries. -/
set_option linter.unusedVariables false
set_option linter.unusedSimpArgs false
namespace Go.Proofs.Ytpnnnhdhmdildaa.Given
open Go.RowKit Go.Proofs.YtpnnnhdhmdildaaW.PrintWords Go.Proofs.Ytpnnnhdhmdildaa.J Go.Proofs.Ytpnnnhdhmdildaa.RF
theorem upto_at {α : Type} {f : Nat → α} {n : Nat} {pre : List α} {x : α} (h : pre ++ [x] <+: upto f n) : x = f pre.length ∧ pre.length < n := by
  have hl := h.length_le
  rw [upto_length, List.length_append] at hl
  have hlt : pre.length < n := by simp at hl; omega
  refine ⟨?_, hlt⟩
  obtain ⟨t, ht⟩ := h
  have h1 : (pre ++ [x] ++ t)[pre.length]? = some x := by simp
  rw [ht] at h1
  simp [upto, hlt] at h1
  exact h1.symm
theorem Boxed_ch {S : Nat → Prop} {W W' : World} {x : Nat} {t : TypeId} {v : Value} (h : Boxed W x t v) (hc : Ch S W W') (hx : ¬ S x) : Boxed W' x t v := (hc.block x h.lt hx).trans h
theorem turn_ch {B : Nat} {W W' : World} (h : Turn (fun _ => False) B W W') : Ch (fun i => B ≤ i ∧ ∃ o : Obj, W.heap[i]? = some o ∧ o.isCells = false) W W' := by
  obtain ⟨row, hg, hr⟩ := h
  refine ⟨hg.os, hg.tape, hg.output, hg.size, fun i hi hs => hg.block i hi fun e => hs ?_⟩
  rcases hr i e.symm with h | h
  · exact h.elim
  · exact h
theorem boxed_not {B : Nat} {x : Nat} {t : TypeId} {v : Value} {W : World} (h : Boxed W x t v) : ¬ (B ≤ x ∧ ∃ o : Obj, W.heap[x]? = some o ∧ o.isCells = false) := by
  rintro ⟨_, o, ho, hc⟩
  rw [show W.heap[x]? = _ from h] at ho
  cases ho
  cases hc
theorem cells_not {B : Nat} {x : Nat} {W : World} (h : ∃ o, W.heap[x]? = some o ∧ o.isCells = true) : ¬ (B ≤ x ∧ ∃ o : Obj, W.heap[x]? = some o ∧ o.isCells = false) := by
  rintro ⟨_, o, ho, hc⟩
  obtain ⟨o', h1, h2⟩ := h
  rw [h1] at ho
  cases ho
  rw [hc] at h2
  cases h2
theorem row_cells {W : World} {B t e n : Nat} {v : Value} {xs : List Value} (h : W.ownsRow B t e v n xs) {x : Nat} (hx : v.ownBlock = some x) : ∃ o, W.heap[x]? = some o ∧ o.isCells = true := by
  rcases h.2 with ⟨hv, _⟩ | ⟨g', cap', cur, hv, _, hg, _⟩
  · rw [hv] at hx; cases hx
  · rw [hv] at hx; cases hx
    exact ⟨_, hg, rfl⟩
theorem DiskAt.row {b p g : Nat} {D : DS} {w : World} (h : DiskAt b p g D w) : (∃ o, w.heap[p]? = some o ∧ o.isCells = true) ∧ ∃ o, w.heap[g]? = some o ∧ o.isCells = true := by
  obtain ⟨_, cap, h1, h2⟩ := h
  exact ⟨⟨_, h1, rfl⟩, row_cells h2 rfl⟩
theorem JD.ch {S : Nat → Prop} {b q p g : Nat} {v : Value} {J : JS} {D : DS} {W W' : World} (h : JD b q p g v J D W) (hc : Ch S W W') (h1 : ¬ S q) (h2 : ¬ S p) (h3 : ¬ S g) (h4 : ∀ x, v.ownBlock = some x → ¬ S x) : JD b q p g v J D W' :=
  ⟨h.jour.ch hc h1 h4, h.disk.ch hc h2 h3, h.qp, h.qg, h.vo⟩
theorem JD.turn {B b q p g : Nat} {v : Value} {J : JS} {D : DS} {W W' : World} (h : JD b q p g v J D W) (ht : Turn (fun _ => False) B W W') : JD b q p g v J D W' :=
  h.ch (turn_ch ht) (cells_not ⟨_, h.jour.2.1, rfl⟩) (cells_not h.disk.row.1) (cells_not h.disk.row.2) (fun x hx => cells_not (row_cells h.jour.2.2 hx))
theorem boxed_turn {B : Nat} {x : Nat} {t : TypeId} {v : Value} {W W' : World} (h : Boxed W x t v) (ht : Turn (fun _ => False) B W W') : Boxed W' x t v := Boxed_ch h (turn_ch ht) (boxed_not h)
/-- What Open's walk carries. -/
structure OpS (w : World) (b p g q : Nat) (D : DS) (v : Value) (l : List ByteArray) (e : Nat) (t : ByteArray) (W : World) : Prop where
  jd : JD b q p g v ⟨l, e, false⟩ D W
  j : Boxed W (q + 1) 24 (.pointer (some ⟨q, 0, none⟩))
  t : Boxed W (q + 1 + 1) 9 (.string t)
  below : Below w.heap.size w W
  fresh : ∀ x, v.ownBlock = some x → w.heap.size ≤ x ∧ x ≠ q + 1 ∧ x ≠ q + 1 + 1
  hq : w.heap.size ≤ q
  hp : p < w.heap.size ∧ g < w.heap.size
section
variable {w : World} {b p g q : Nat} {D : DS} {v : Value} {l : List ByteArray} {e : Nat} {t : ByteArray} {W W' : World}
theorem OpS.ch {S : Nat → Prop} (h : OpS w b p g q D v l e t W) (hc : Ch S W W') (h1 : ¬ S q) (h2 : ¬ S p) (h3 : ¬ S g) (h4 : ∀ x, v.ownBlock = some x → ¬ S x) (h5 : ¬ S (q + 1)) (h6 : ¬ S (q + 1 + 1)) (hS : ∀ i, S i → w.heap.size ≤ i) : OpS w b p g q D v l e t W' :=
  ⟨h.jd.ch hc h1 h2 h3 h4, Boxed_ch h.j hc h5, Boxed_ch h.t hc h6, hc.below h.below (Nat.le_refl _) hS, h.fresh, h.hq, h.hp⟩
theorem OpS.step (h : OpS w b p g q D v l e t W) (hb : Below W.heap.size W W') : OpS w b p g q D v l e t W' := h.ch (S := fun _ => False) (Ch.of_new hb) id id id (fun _ _ h => h) id id (fun _ h => h.elim)
theorem OpS.turn {B : Nat} (h : OpS w b p g q D v l e t W) (hB : w.heap.size ≤ B) (ht : Turn (fun _ => False) B W W') : OpS w b p g q D v l e t W' :=
  h.ch (turn_ch ht) (cells_not ⟨_, h.jd.jour.2.1, rfl⟩) (cells_not h.jd.disk.row.1) (cells_not h.jd.disk.row.2) (fun x hx => cells_not (row_cells h.jd.jour.2.2 hx)) (boxed_not h.j) (boxed_not h.t) (fun i hi => Nat.le_trans hB hi.1)
/-- The text is set. -/
theorem OpS.text (h : OpS w b p g q D v l e t W) (t' : ByteArray) : OpS w b p g q D v l e t' (W.setCell ⟨q + 1 + 1, 0, none⟩ (.string t')) := by
  have hc : Ch (fun i => i = q + 1 + 1) W (W.setCell ⟨q + 1 + 1, 0, none⟩ (.string t')) := (Ch.refl (fun i => i = q + 1 + 1) W).set ⟨q + 1 + 1, 0, none⟩ rfl _
  have h1 := h.hq
  have h2 := h.hp
  exact ⟨h.jd.ch hc (by omega) (by omega) (by omega) (fun x hx => (h.fresh x hx).2.2), Boxed_ch h.j hc (by omega), h.t.set _, hc.below h.below (Nat.le_refl _) (by omega), h.fresh, h.hq, h.hp⟩
theorem OpS.cells (h : OpS w b p g q D v l e t W) : W.cell? ⟨q + 1, 0, none⟩ = some (.pointer (some ⟨q, 0, none⟩)) ∧ W.cell? ⟨q + 1 + 1, 0, none⟩ = some (.string t) ∧ W.frozen? ⟨q + 1 + 1, 0, none⟩ = false ∧ W.cell? ⟨q, 1, none⟩ = some v ∧ (∀ k, W.frozen? ⟨q, k, none⟩ = false) ∧ W.cell? ⟨q, 2, none⟩ = some (.int .i64 (e : Int)) :=
  ⟨h.j.cell, h.t.cell, h.t.frozen, h.jd.jour.open.2.1, h.jd.jour.open.2.2.2.2, h.jd.jour.open.2.2.1⟩
/-- A transaction is appended. -/
theorem OpS.more (h : OpS w b p g q D v l e t W) {W1 W5 : World} {v1 : Value} {s : ByteArray} {n : Nat} (hb : Below W.heap.size W W1) (hg : W1.grownBy W5 v.ownBlock)
    (hown : W5.ownsRow b 9 1 v1 (l ++ [s]).length ((l ++ [s]).map Value.string)) (hat : v1.ownBlock = v.ownBlock ∨ v1.ownBlock = some W1.heap.size) :
    OpS w b p g q D v1 (l ++ [s]) n t ((W5.setCell ⟨q, 1, none⟩ v1).setCell ⟨q, 2, none⟩ (.int .i64 (n : Int))) := by
  obtain ⟨h1, _⟩ := h.jd.more (n := n) hb hg rfl hown hat
  have hc : Ch (fun i => v.ownBlock = some i) W W5 := (Ch.of_new hb).trans (grown_ch hg)
  have hc2 : Ch (fun i => v.ownBlock = some i ∨ i = q) W ((W5.setCell ⟨q, 1, none⟩ v1).setCell ⟨q, 2, none⟩ (.int .i64 (n : Int))) := ((hc.mono fun i _ e => .inl e).set ⟨q, 1, none⟩ (.inr rfl) _).set ⟨q, 2, none⟩ (.inr rfl) _
  have lj := h.j.lt
  have lt := h.t.lt
  refine ⟨h1, Boxed_ch h.j hc2 (by rintro (e | e); exact (h.fresh _ e).2.1 rfl; omega), Boxed_ch h.t hc2 (by rintro (e | e); exact (h.fresh _ e).2.2 rfl; omega), hc2.below h.below (Nat.le_refl _) ?_, fun x hx => ?_, h.hq, h.hp⟩
  · rintro i (e | e)
    · exact (h.fresh i e).1
    · rw [e]; exact h.hq
  · rcases hat with e | e
    · exact h.fresh x (e.symm.trans hx)
    · rw [e] at hx
      cases hx
      have := hb.size
      have := h.hq
      omega
/-- A transaction is appended: the row alone. -/
theorem OpS.app (h : OpS w b p g q D v l e t W) {W1 W5 : World} {v1 : Value} {s : ByteArray} (hb : Below W.heap.size W W1) (hg : W1.grownBy W5 v.ownBlock)
    (hown : W5.ownsRow b 9 1 v1 (l ++ [s]).length ((l ++ [s]).map Value.string)) (hat : v1.ownBlock = v.ownBlock ∨ v1.ownBlock = some W1.heap.size) :
    OpS w b p g q D v1 (l ++ [s]) e t (W5.setCell ⟨q, 1, none⟩ v1) := by
  obtain ⟨h1, h2, h3⟩ := h.jd.grown hb hg
  have hc : Ch (fun i => v.ownBlock = some i) W W5 := (Ch.of_new hb).trans (grown_ch hg)
  have hc2 : Ch (fun i => v.ownBlock = some i ∨ i = q) W (W5.setCell ⟨q, 1, none⟩ v1) := (hc.mono fun i _ e => .inl e).set ⟨q, 1, none⟩ (.inr rfl) _
  have hcq : Ch (fun i => i = q) W5 (W5.setCell ⟨q, 1, none⟩ v1) := (Ch.refl (fun i => i = q) W5).set ⟨q, 1, none⟩ rfl v1
  have lj := h.j.lt
  have lt := h.t.lt
  have hq := h.hq
  have hp := h.hp
  have fr : ∀ x, v1.ownBlock = some x → w.heap.size ≤ x ∧ x ≠ q ∧ x ≠ q + 1 ∧ x ≠ q + 1 + 1 := fun x hx => by
    rcases hat with e | e
    · have := h.fresh x (e.symm.trans hx)
      have := (h.jd.vo x (e.symm.trans hx)).1
      omega
    · rw [e] at hx
      cases hx
      have := hb.size
      omega
  refine ⟨⟨⟨h.jd.jour.1, ?_, ?_⟩, h2.ch hcq (by omega) (by omega), h.jd.qp, h.jd.qg, fun x hx => ?_⟩, Boxed_ch h.j hc2 (by rintro (e | e); exact (h.fresh _ e).2.1 rfl; omega), Boxed_ch h.t hc2 (by rintro (e | e); exact (h.fresh _ e).2.2 rfl; omega), hc2.below h.below (Nat.le_refl _) ?_, fun x hx => ⟨(fr x hx).1, (fr x hx).2.2⟩, h.hq, h.hp⟩
  · rw [Go.Joins.block_setCell h1]
    rfl
  · exact ownsRow_setCell_other hown (fun e => (fr q e).2.1 rfl) _
  · have := fr x hx
    omega
  · rintro i (e | e)
    · exact (h.fresh i e).1
    · rw [e]; exact h.hq
/-- The end is set. -/
theorem OpS.setE (h : OpS w b p g q D v l e t W) {z : Int} (n : Nat) (hz : z = (n : Int)) : OpS w b p g q D v l n t (W.setCell ⟨q, 2, none⟩ (.int .i64 z)) := by
  subst hz
  have hcq : Ch (fun i => i = q) W (W.setCell ⟨q, 2, none⟩ (.int .i64 (n : Int))) := (Ch.refl (fun i => i = q) W).set ⟨q, 2, none⟩ rfl _
  have hq := h.hq
  have hp := h.hp
  refine ⟨⟨⟨h.jd.jour.1, ?_, ?_⟩, h.jd.disk.ch hcq (by omega) (by omega), h.jd.qp, h.jd.qg, h.jd.vo⟩, Boxed_ch h.j hcq (by omega), Boxed_ch h.t hcq (by omega), hcq.below h.below (Nat.le_refl _) (by omega), h.fresh, h.hq, h.hp⟩
  · rw [Go.Joins.block_setCell h.jd.jour.2.1]
    rfl
  · exact ownsRow_setCell_other h.jd.jour.2.2 (fun e => (h.jd.vo q e).1 rfl) _
/-- What the loads see behind the append. -/
theorem OpS.grown (h : OpS w b p g q D v l e t W) {W1 W5 : World} (hb : Below W.heap.size W W1) (hg : W1.grownBy W5 v.ownBlock) :
    W5.cell? ⟨q + 1, 0, none⟩ = some (.pointer (some ⟨q, 0, none⟩)) ∧ W5.cell? ⟨q + 1 + 1, 0, none⟩ = some (.string t) ∧ W5.cell? ⟨q, 1, none⟩ = some v ∧ W5.frozen? ⟨q, 1, none⟩ = false := by
  have hc : Ch (fun i => v.ownBlock = some i) W W5 := (Ch.of_new hb).trans (grown_ch hg)
  have h1 := (h.jd.grown hb hg).1
  exact ⟨(Boxed_ch h.j hc (fun e => (h.fresh _ e).2.1 rfl)).cell, (Boxed_ch h.t hc (fun e => (h.fresh _ e).2.2 rfl)).cell, (Lib.cell_of_heap h1 1).trans rfl, Lib.frozen_of_heap h1 1⟩
end
/-- What a round keeps for the loop around it. -/
structure Kps (B q : Nat) (A C : World) : Prop where
  from_ : KeepsFrom B A C
  keep : KeepB q A C
theorem Kps.refl (B q : Nat) (A : World) : Kps B q A A := ⟨KeepsFrom.refl _ _, fun _ ho => ho⟩
theorem Kps.trans {B q : Nat} {A C E : World} (h : Kps B q A C) (k : Kps B q C E) : Kps B q A E := ⟨h.from_.trans k.from_, h.keep.trans k.keep⟩
theorem Kps.new {B q : Nat} {A C : World} (h : Below A.heap.size A C) : Kps B q A C := ⟨⟨h.size, fun k o _ hk _ => (h.block k (Array.getElem?_eq_some_iff.1 hk).1).trans hk⟩, KeepB.new h⟩
theorem Kps.set {B q : Nat} (W : World) (x k : Nat) (v : Value) (hx : q ≠ x) : Kps B q W (W.setCell ⟨x, k, none⟩ v) := ⟨(KeepsOthers.setCell _ _ _).from _, fun o ho => (Below.heap_setCell _ _ _ _ hx).trans ho⟩
theorem Kps.alloc {B q : Nat} (W : World) (o : Obj) : Kps B q W (W.alloc o) := Kps.new ((Below.refl _ W).alloc (Nat.le_refl _) _)
theorem Kps.drew {B q : Nat} (W : World) : Kps B q W W.drew := Kps.new (bdrew (Below.refl _ W))
theorem Kps.grown {B q : Nat} {W W' : World} {row : Option Nat} (hg : W.grownBy W' row) (hq : row ≠ some q) (hr : ∀ x, row = some x → ∃ o, W.heap[x]? = some o ∧ o.isCells = true) : Kps B q W W' := by
  refine ⟨⟨hg.size, fun k o _ hk hc => ?_⟩, fun o ho => (hg.block q (Array.getElem?_eq_some_iff.1 ho).1 (fun e => hq e.symm)).trans ho⟩
  refine (hg.block k (Array.getElem?_eq_some_iff.1 hk).1 (fun e => ?_)).trans hk
  obtain ⟨o', h1, h2⟩ := hr k e.symm
  rw [h1] at hk
  cases hk
  rw [hc] at h2
  cases h2
end Go.Proofs.Ytpnnnhdhmdildaa.Given
end
section
/- The journal: Open. -/
set_option linter.unusedVariables false
set_option linter.unusedSimpArgs false
namespace Go.Proofs.Ytpnnnhdhmdildaa.Given
open Go.RowKit Go.Proofs.YtpnnnhdhmdildaaW.PrintWords Go.Proofs.Ytpnnnhdhmdildaa.J Go.Proofs.Ytpnnnhdhmdildaa.RF
attribute [local go_sem] Oper.semAt_some
/-- What Open leaves. -/
def OpenPost (b p g : Nat) (D : DS) (w : World) (e : Ending) (w' : World) : Prop :=
  ∃ q v, e = .returned (.pointer (some ⟨q, 0, none⟩)) ∧ JD b q p g v (JS.open D) D w' ∧ Below w.heap.size w w' ∧ w.heap.size ≤ q ∧ ∀ x, v.ownBlock = some x → w.heap.size ≤ x
/-- At Open's start. -/
theorem op_start {b p g : Nat} {D : DS} {w : World} (h : DiskAt b p g D w) (hb : b ≤ w.heap.size) :
    OpS w b p g w.heap.size D (.slice none 0 0) [] 0 ⟨#[]⟩ (((w.alloc (.cells #[.pointer (some ⟨p, 0, none⟩), .slice none 0 0, .int .i64 0, .bool false] 62)).alloc (.cells #[.pointer (some ⟨w.heap.size, 0, none⟩)] 24)).alloc (.cells #[.string ⟨#[]⟩] 9)) := by
  have hg := h.g
  have l1 := World.alloc_heap_new w (.cells #[.pointer (some ⟨p, 0, none⟩), .slice none 0 0, .int .i64 0, .bool false] 62)
  have b1 : Below w.heap.size w (((w.alloc (.cells #[.pointer (some ⟨p, 0, none⟩), .slice none 0 0, .int .i64 0, .bool false] 62)).alloc (.cells #[.pointer (some ⟨w.heap.size, 0, none⟩)] 24)).alloc (.cells #[.string ⟨#[]⟩] 9)) := balloc _ (balloc _ (balloc _ (Below.refl _ _) (Nat.le_refl _)) (Nat.le_refl _)) (Nat.le_refl _)
  have k1 : (((w.alloc (.cells #[.pointer (some ⟨p, 0, none⟩), .slice none 0 0, .int .i64 0, .bool false] 62)).alloc (.cells #[.pointer (some ⟨w.heap.size, 0, none⟩)] 24)).alloc (.cells #[.string ⟨#[]⟩] 9)).heap[w.heap.size]? = some (.cells #[.pointer (some ⟨p, 0, none⟩), .slice none 0 0, .int .i64 0, .bool false] 62 (0, 0)) :=
    (Below.heap_alloc _ _ _ (by simp only [World.size_alloc]; omega)).trans ((Below.heap_alloc _ _ _ (by simp only [World.size_alloc]; omega)).trans l1)
  have l2 : Boxed ((w.alloc (.cells #[.pointer (some ⟨p, 0, none⟩), .slice none 0 0, .int .i64 0, .bool false] 62)).alloc (.cells #[.pointer (some ⟨w.heap.size, 0, none⟩)] 24)) (w.heap.size + 1) 24 (.pointer (some ⟨w.heap.size, 0, none⟩)) := by
    have := Boxed.new (w.alloc (.cells #[.pointer (some ⟨p, 0, none⟩), .slice none 0 0, .int .i64 0, .bool false] 62)) 24 (.pointer (some ⟨w.heap.size, 0, none⟩))
    rwa [World.size_alloc] at this
  have l3 : Boxed (((w.alloc (.cells #[.pointer (some ⟨p, 0, none⟩), .slice none 0 0, .int .i64 0, .bool false] 62)).alloc (.cells #[.pointer (some ⟨w.heap.size, 0, none⟩)] 24)).alloc (.cells #[.string ⟨#[]⟩] 9)) (w.heap.size + 1 + 1) 9 (.string ⟨#[]⟩) := by
    have := Boxed.new ((w.alloc (.cells #[.pointer (some ⟨p, 0, none⟩), .slice none 0 0, .int .i64 0, .bool false] 62)).alloc (.cells #[.pointer (some ⟨w.heap.size, 0, none⟩)] 24)) 9 (.string ⟨#[]⟩)
    rwa [World.size_alloc, World.size_alloc] at this
  exact ⟨⟨⟨hb, k1, World.ownsRow_nil _ _ _ _⟩, h.ch (S := fun _ => False) (Ch.of_new b1) id id, by omega, by omega, (fun x hx => by simp [Value.ownBlock] at hx)⟩, l2.alloc _, l3, b1, (fun x hx => by simp [Value.ownBlock] at hx), Nat.le_refl _, by omega⟩
theorem hd_at (s : ByteArray) (h : 0 < s.size) : hd s = (s[0]'h).toNat := by
  unfold hd
  have h' : 0 < s.data.size := h
  simp only [Array.getD, h', dif_pos]
  rfl
theorem mk_at (s : ByteArray) (h : 31 < s.size) : J.mk s = (s[31]'h).toNat := by
  unfold J.mk
  have h' : 31 < s.data.size := h
  simp only [Array.getD, h', dif_pos]
  rfl
/-- What the walk's rounds carry. -/
def OpI (w : World) (b p g g' : Nat) (D : DS) (k : Nat) (W : World) : Prop :=
  ∃ v l e t, OpS w b p g w.heap.size D v l e t W ∧ v.ownBlock ≠ some g' ∧ scan D.secs = scanGo (D.secs.drop k) k t l e ∧ t.size ≤ 30 * k ∧ e ≤ k ∧ l.length ≤ k
def OpX (w : World) (b p g : Nat) (D : DS) (W : World) : Prop :=
  ∃ v t, OpS w b p g w.heap.size D v (scan D.secs).1 (scan D.secs).2 t W
set_option maxRecDepth 100000 in
set_option maxHeartbeats 4000000 in
theorem open_call {b p g : Nat} {D : DS} {w : World} (h : DiskAt b p g D w) (hD : D.Ok) (hb : b ≤ w.heap.size) :
    Calls Try.prog 10 #[.pointer (some ⟨p, 0, none⟩)] w (OpenPost b p g D w) := by
  have H0 := Aside0.mk (op_start h hb)
  have hm := hD.most
  clear h
  refine (callsIn_wide (n := 9)).1 ?_
  refine callsIn_of_wp_marks Try.func10 rfl trivial ?_ rfl
  simp only [Try.ntmps10, List.size_toArray, List.length_cons, List.length_nil, Nat.reduceAdd, Nat.reduceSub, Array.replicate_succ, Array.replicate_zero, List.push_toArray, List.append_toArray, List.nil_append, List.cons_append]
  refine wpIn_wide.2 ?_
  go_wp2
  go_step3
  go_wp2
  go_step3
  go_wp2_with (go_at_call 25; refine (all_call H0.out.jd.disk hD).mono ?_; rintro e w1 ⟨s, g', rfl, hit, be⟩; have H1 := Aside0.mk (H0.out.step be); have HIT := Aside0.mk hit; have HG := Aside0.mk (show w.heap.size + 1 + 1 + 1 ≤ g' by have := hit.bg; simp at this; omega); clear hit be H0)
  refine (wpIn_wide (n := 9)).1 ?_
  refine range_own (n := 9) (encs := fun x : Nat × ByteArray => #[.int .i64 (x.1 : Int), .string x.2]) rfl (by omega) (gf := 38) (lb := #[.pointer (some ⟨s, 0, none⟩)]) rfl trivial (enters_of Try.func38 (by kernel_rfl) rfl)
    (all_yields (F := Fence.wide) (n := 9 - 1) trivial rfl (by omega) HIT.out (by omega)) (fun r hr => hr.elim) (fun h k => h.trans k) (fun W l o hl => KeepB.put W l o HIT.out.lg hl) (Below.refl _ _) (fun _ => rfl)
    (fun pre W => OpI w b p g g' D pre.length W)
    (fun c' pre W => c' = .exit 0 ∧ OpX w b p g D W)
    (fun _ X Y ht h => by obtain ⟨v, l, e, t, h1, h2⟩ := h; exact ⟨v, l, e, t, h1.turn H1.out.below.size ht, h2⟩) (fun _ _ X Y ht h => by obtain ⟨h0, v, t, h1⟩ := h; exact ⟨h0, v, t, h1.turn H1.out.below.size ht⟩) ⟨_, _, _, _, H1.out, by simp [Value.ownBlock], rfl, by simp [ByteArray.size], by simp, by simp⟩ ?round ?done ?stop
  case done =>
    intro Dd W hDd hI hK
    obtain ⟨v, l, e, t, hS, _, hsc, _⟩ := hI
    rw [show (secsOf D.secs).length = D.secs.length from upto_length _ _, List.drop_length] at hsc
    have hJ : JS.open D = ⟨l, e, false⟩ := by unfold JS.open; rw [hsc]; rfl
    have HS := Aside0.mk hS
    have HK := Aside0.mk hK
    have HJ := Aside0.mk hJ
    obtain ⟨c1, _, _, _, _, _⟩ := hS.cells
    clear hS hK hsc hJ
    go_wp2
    rw [Exit.noGoto_ret]
    have HT := HS.out.turn H1.out.below.size (Turn.put (own := fun _ => False) (.deferred none) hDd HK.out rfl)
    exact ⟨by simp, .inl ⟨_, _, rfl, run_takeDeferred HK.out, .pointer (some ⟨w.heap.size, 0, none⟩), by simp [results, Try.f10, go_sem], w.heap.size, v, rfl, by rw [HJ.out]; exact HT.jd, HT.below, Nat.le_refl _, fun x hx => (HT.fresh x hx).1⟩⟩
  case stop =>
    rintro Dd c' pre W hDd hp ⟨rfl, v, t, hS⟩ hK
    have HS := Aside0.mk hS
    have HK := Aside0.mk hK
    obtain ⟨c1, _, _, _, _, _⟩ := hS.cells
    clear hS hK hp
    refine wpIn_wide.2 ?_
    go_wp2
    rw [Exit.noGoto_ret]
    have HT := HS.out.turn H1.out.below.size (Turn.put (own := fun _ => False) (.deferred none) hDd HK.out rfl)
    exact ⟨by simp, .inl ⟨_, _, rfl, run_takeDeferred HK.out, .pointer (some ⟨w.heap.size, 0, none⟩), by simp [results, Try.f10, go_sem], w.heap.size, v, rfl, HT.jd, HT.below, Nat.le_refl _, fun x hx => (HT.fresh x hx).1⟩⟩
  case round =>
    intro l pre x W hp hl hI
    obtain ⟨hx, hlt⟩ := upto_at hp
    obtain ⟨x1, x2⟩ := x
    unfold sec at hx
    obtain ⟨rfl, rfl⟩ := Prod.mk.inj hx
    obtain ⟨k, hk⟩ : ∃ k, pre.length = k := ⟨_, rfl⟩
    obtain ⟨s0, hs0⟩ : ∃ y, D.secs.getD k ⟨#[]⟩ = y := ⟨_, rfl⟩
    have hsn : (pre ++ [(pre.length, D.secs.getD pre.length ⟨#[]⟩)]).length = k + 1 := by simp [hk]
    generalize pre ++ [(pre.length, D.secs.getD pre.length ⟨#[]⟩)] = pre1 at hsn ⊢
    rw [hk] at hI hlt ⊢
    rw [hs0]
    clear hp hx hk
    have hsz : s0.size = 32 := by rw [← hs0]; exact getD_size hD.size hlt
    have hdr : D.secs.drop k = s0 :: D.secs.drop (k + 1) := by
      rw [List.drop_eq_getElem_cons hlt, ← hs0, List.getD_eq_getElem?_getD, List.getElem?_eq_getElem hlt]
      rfl
    obtain ⟨v, lt, e0, t, hS, hvg, hsc, ht1, he1, hl1⟩ := hI
    rw [hdr, scanGo] at hsc
    have HSC := Aside0.mk hsc
    clear hsc hdr hs0
    gi_wp2
    refine ⟨KeepsFrom.refl _ _, fun _ ho => ho, fun Wb htn hL => ?_⟩
    have HSB := Aside0.mk (hS.turn H1.out.below.size htn)
    have HLG : Aside0 (g' < Wb.heap.size) := ⟨by obtain ⟨r, hr⟩ := hL; have := (Array.getElem?_eq_some_iff.1 hr).1; have := HIT.out.lg; omega⟩
    have HVG := Aside0.mk hvg
    clear hvg
    clear hS htn hL
    have i0 : ((s0[0]'(by omega)).toNat : Int) = (hd s0 : Int) := by rw [hd_at s0 (by omega)]
    have i31 : ((s0[31]'(by omega)).toNat : Int) = (mk s0 : Int) := by rw [mk_at s0 (by omega)]
    obtain ⟨n, hn⟩ : ∃ n, hd s0 = n := ⟨_, rfl⟩
    obtain ⟨m, hmk⟩ : ∃ m, mk s0 = m := ⟨_, rfl⟩
    have hwn : IntKind.i64.wrap (n : Int) = (n : Int) := IntWalk.i64_in _ (by have : n < 256 := (by rw [← hn]; exact UInt8.toNat_lt _); omega)
    have hn256 : n < 256 := by rw [← hn]; exact UInt8.toNat_lt _
    have hm256 : m < 256 := by rw [← hmk]; exact UInt8.toNat_lt _
    rw [hn] at HSC i0
    rw [hmk] at HSC i31
    gi_wp2
    refine region_round_quiet (by kernel_rfl) (by kernel_rfl) (by kernel_rfl) ?_
    repeat (quiet_step (fail))
    refine wpQuiet_nil ?_
    rintro _ ⟨nq, rfl⟩
    have HSC2 := HSC.out
    have HS := Aside0.mk (HSB.out.step (Drawn0.below ⟨⟨nq, rfl⟩⟩))
    have KP := Aside0.mk (Kps.new (B := w1.heap.size) (q := g') (Drawn0.below (w' := Wb.drewN nq) ⟨⟨nq, rfl⟩⟩))
    clear HSB HSC
    generalize Wb.drewN nq = W2 at HS KP ⊢
    by_cases hn30 : 30 < n
    · rw [if_pos hn30] at HSC2
      have HSC := Aside0.mk HSC2
      have q1 : decide ((30 : Int) < (n : Int)) = true := decide_eq_true (by omega)
      clear HSC2
      gi_wp2
      exact ⟨KP.out.from_, rfl, v, t, by rw [HSC.out]; exact HS.out⟩
    · rw [if_neg hn30] at HSC2
      have HSC := Aside0.mk HSC2
      have q1 : decide ((30 : Int) < (n : Int)) = false := decide_eq_false (by omega)
      have hx1 : (s0.extract 1 (1 + n)).size = n := by rw [ByteArray.size_extract]; omega
      have w1n : IntKind.i64.wrap ((1 : Int) + (n : Int)) = (1 : Int) + (n : Int) := IntWalk.i64_in _ (by omega)
      have k1n : (1 : Int) + (n : Int) ≤ 32 := by omega
      have k0n : (1 : Int) ≤ (1 : Int) + (n : Int) := by omega
      have tn : ((1 : Int) + (n : Int)).toNat = 1 + n := by omega
      have kc : ∀ A B : Result Next, (if 9223372036854775807 < t.size + n then A else B) = B := fun A B => if_neg (by omega)
      obtain ⟨c1, c2, c3, c4, c5, c6⟩ := HS.out.cells
      clear HSC2
      gi_wp2
      refine region_round_T (fun w' => w'.cell? ⟨w.heap.size + 1 + 1, 0, none⟩ = some (.string t)) 6 (by kernel_rfl) (by kernel_rfl) c2 (fun K hK hHeld => ?_)
      refine wpT_take (i := 0) (some 23) (v := ?_) rfl (by kernel_rfl) (by kernel_rfl) (by kernel_rfl) (by kernel_rfl) (fun _ _ _ h => h) rfl (Or.inl ⟨by rfl, ?_⟩) (by assumption) ?_
      rotate_left
      · intro w hSw; (try dsimp only at hSw); go_simp; (try with_reducible rfl)
      try simp only [Act.put, List.setIfInBounds_toArray, List.set_cons_zero, List.set_cons_succ]
      refine wpT_take (i := 1) (some 24) (v := ?_) rfl (by kernel_rfl) (by kernel_rfl) (by kernel_rfl) (by kernel_rfl) (fun _ _ _ h => h) rfl (Or.inl ⟨by rfl, ?_⟩) (by assumption) ?_
      rotate_left
      · intro w hSw; (try dsimp only at hSw); go_simp; (try with_reducible rfl)
      try simp only [Act.put, List.setIfInBounds_toArray, List.set_cons_zero, List.set_cons_succ]
      refine wpT_take (i := 2) (some 25) (v := ?_) rfl (by kernel_rfl) (by kernel_rfl) (by kernel_rfl) (by kernel_rfl) (fun _ _ _ h => h) rfl (Or.inl ⟨by rfl, ?_⟩) (by assumption) ?_
      rotate_left
      · intro w hSw; (try dsimp only at hSw); go_simp; (try with_reducible rfl)
      try simp only [Act.put, List.setIfInBounds_toArray, List.set_cons_zero, List.set_cons_succ]
      refine wpT_take (i := 3) (some 26) (v := ?_) rfl (by kernel_rfl) (by kernel_rfl) (by kernel_rfl) (by kernel_rfl) (fun _ _ _ h => h) rfl (Or.inl ⟨by rfl, ?_⟩) (by assumption) ?_
      rotate_left
      · intro w hSw; (try dsimp only at hSw); go_simp; (try with_reducible rfl)
      try simp only [Act.put, List.setIfInBounds_toArray, List.set_cons_zero, List.set_cons_succ]
      refine wpT_take (i := 4) (some 27) (v := ?_) rfl (by kernel_rfl) (by kernel_rfl) (by kernel_rfl) (by kernel_rfl) (fun _ _ _ h => h) rfl (Or.inl ⟨by rfl, ?_⟩) (by assumption) ?_
      rotate_left
      · intro w hSw; (try dsimp only at hSw); go_simp; (try with_reducible rfl)
      try simp only [Act.put, List.setIfInBounds_toArray, List.set_cons_zero, List.set_cons_succ]
      refine wpT_take (i := 5) (some 28) (v := ?_) rfl (by kernel_rfl) (by kernel_rfl) (by kernel_rfl) (by kernel_rfl) (fun _ _ _ h => h) rfl (Or.inl ⟨by rfl, ?_⟩) (by assumption) ?_
      rotate_left
      · intro w hSw; (try dsimp only at hSw); go_simp; (try with_reducible rfl)
      try simp only [Act.put, List.setIfInBounds_toArray, List.set_cons_zero, List.set_cons_succ]
      refine wpT_ready (rs := [6]) (by kernel_rfl) (by simp) ?_
      refine AllT.cons rfl (fun K' hK' => ?_) AllT.nil
      go_simp
      refine hK'.out _ _ (fun h => absurd h (by decide)) (fun _ => ?_)
      refine wpT_done (by kernel_rfl) ?_ _
      refine hK.out _ _ ?_
      have hts : (t ++ s0.extract 1 (1 + n)).size = t.size + n := by rw [ByteArray.size_append, hx1]
      generalize t ++ s0.extract 1 (1 + n) = t' at HSC hts ⊢
      have HS3 := Aside0.mk ((HS.out.text t').step (bdrew (Below.refl _ _)))
      have KP3 := Aside0.mk ((KP.out.trans (Kps.set W2 (w.heap.size + 1 + 1) 0 (.string t') (by have := HG.out; omega))).trans (Kps.drew _))
      clear hK hHeld hK' K K' HS KP c1 c2 c3 c4 c5 c6
      generalize (W2.setCell ⟨w.heap.size + 1 + 1, 0, none⟩ (.string t')).drew = W3 at HS3 KP3 ⊢
      obtain ⟨c1, c2, c3, c4, c5, c6⟩ := HS3.out.cells
      by_cases hm1 : m = 1
      · rw [if_pos hm1] at HSC
        have q2 : ((m : Int) == 1) = true := beq_iff_eq.2 (by omega)
        gi_wp2
        exact ⟨KP3.out.from_, KP3.out.keep, by show OpI w b p g g' D pre1.length W3; rw [hsn]; exact ⟨v, lt, e0, t', HS3.out, HVG.out, HSC.out, by omega, by omega, by omega⟩⟩
      · rw [if_neg hm1] at HSC
        have q2 : ((m : Int) == 1) = false := beq_eq_false_iff_ne.2 (by omega)
        by_cases hm2 : m = 2
        · rw [if_pos hm2] at HSC
          have q3 : ((m : Int) == 2) = true := beq_iff_eq.2 (by omega)
          obtain ⟨ii, hi0, hz0, hz1, hz2⟩ : ∃ i0, Try.prog.info? 9 = some i0 ∧ i0.zero = some (.string ⟨#[]⟩) ∧ i0.size = 1 ∧ i0.bytes = 16 := by
            have h := info9
            cases hh : Try.prog.info? 9 with
            | none => rw [hh] at h; cases h
            | some i => rw [hh] at h; simp at h; exact ⟨i, rfl, h.1, h.2.1, h.2.2⟩
          have HI := Aside0.mk hi0
          have HZ0 := Aside0.mk hz0
          have HZ1 := Aside0.mk hz1
          have HZ2 := Aside0.mk hz2
          have hbl : Aside0 (Below W3.heap.size W3 (W3.alloc (.cells #[.string t'] 9)).drew) := ⟨bdrew ((Below.refl _ W3).alloc (Nat.le_refl _) _)⟩
          have e1 := pw_cell_below hbl.out c1
          have e2 := pw_cell_below hbl.out c2
          have e3 := pw_cell_below hbl.out c4
          have HO := Aside0.mk (HS3.out.step hbl.out).jd.jour.2.2
          have hr1 := Aside0.mk (RdS.one (W := (W3.alloc (.cells #[.string t'] 9)).drew) (b := W3.heap.size) (x := t') (World.alloc_heap_new W3 _))
          have hbs : Aside0 (b ≤ (W3.alloc (.cells #[.string t'] 9)).drew.heap.size) := ⟨Nat.le_trans hb (Nat.le_trans HS3.out.below.size hbl.out.size)⟩
          clear hi0 hz0 hz1 hz2
          gi_wp2
          refine region_round_T (fun w' => w'.cell? ⟨w.heap.size + 1, 0, none⟩ = some (.pointer (some ⟨w.heap.size, 0, none⟩)) ∧ w'.cell? ⟨w.heap.size + 1 + 1, 0, none⟩ = some (.string t') ∧ w'.cell? ⟨w.heap.size, 1, none⟩ = some v) 8 (by kernel_rfl) (by kernel_rfl) ⟨c1, c2, c4⟩ (fun K hK hHeld => ?_)
          refine wpT_take (i := 0) (some 34) (v := ?_) rfl (by kernel_rfl) (by kernel_rfl) (by kernel_rfl) (by kernel_rfl) (fun _ _ _ h => h) rfl (Or.inl ⟨by rfl, ?_⟩) (by assumption) ?_
          rotate_left
          · intro w hSw; (try dsimp only at hSw); go_simp; (try with_reducible rfl)
          try simp only [Act.put, List.setIfInBounds_toArray, List.set_cons_zero, List.set_cons_succ]
          refine wpT_take (i := 1) (some 35) (v := ?_) rfl (by kernel_rfl) (by kernel_rfl) (by kernel_rfl) (by kernel_rfl) (fun _ _ _ h => h) rfl (Or.inl ⟨by rfl, ?_⟩) (by assumption) ?_
          rotate_left
          · intro w hSw; (try dsimp only at hSw); go_simp; (try with_reducible rfl)
          try simp only [Act.put, List.setIfInBounds_toArray, List.set_cons_zero, List.set_cons_succ]
          refine wpT_take (i := 2) (some 36) (v := ?_) rfl (by kernel_rfl) (by kernel_rfl) (by kernel_rfl) (by kernel_rfl) (fun _ _ _ h => h) rfl (Or.inl ⟨by rfl, ?_⟩) (by assumption) ?_
          rotate_left
          · intro w hSw; (try dsimp only at hSw); go_simp; (try with_reducible rfl)
          try simp only [Act.put, List.setIfInBounds_toArray, List.set_cons_zero, List.set_cons_succ]
          refine wpT_take (i := 3) (some 37) (v := ?_) rfl (by kernel_rfl) (by kernel_rfl) (by kernel_rfl) (by kernel_rfl) (fun _ _ _ h => h) rfl (Or.inl ⟨by rfl, ?_⟩) (by assumption) ?_
          rotate_left
          · intro w hSw; (try dsimp only at hSw); go_simp; (try with_reducible rfl)
          try simp only [Act.put, List.setIfInBounds_toArray, List.set_cons_zero, List.set_cons_succ]
          refine wpT_take (i := 4) (some 38) (v := ?_) rfl (by kernel_rfl) (by kernel_rfl) (by kernel_rfl) (by kernel_rfl) (fun _ _ _ h => h) rfl (Or.inl ⟨by rfl, ?_⟩) (by assumption) ?_
          rotate_left
          · intro w hSw; (try dsimp only at hSw); go_simp; (try with_reducible rfl)
          try simp only [Act.put, List.setIfInBounds_toArray, List.set_cons_zero, List.set_cons_succ]
          refine wpT_take (i := 5) (some 39) (v := ?_) rfl (by kernel_rfl) (by kernel_rfl) (by kernel_rfl) (by kernel_rfl) (fun _ _ _ h => h) rfl (Or.inl ⟨by rfl, ?_⟩) (by assumption) ?_
          rotate_left
          · intro w hSw; (try dsimp only at hSw); go_simp; (try with_reducible rfl)
          try simp only [Act.put, List.setIfInBounds_toArray, List.set_cons_zero, List.set_cons_succ]
          refine wpT_ready (rs := [6]) (by kernel_rfl) (by simp) ?_
          refine AllT.cons rfl (fun K' hK' => ?_) AllT.nil
          go_simp
          refine hK'.out _ _ (fun _ => ⟨e1, e2, e3⟩) (fun hHeld => ?_)
          clear hK' K'
          refine wpT_ready (rs := [7]) (by kernel_rfl) (by simp) ?_
          refine AllT.cons rfl (fun K' hK' => ?_) AllT.nil
          refine step_app b rfl (.tmp 38) (.tmp 40) 30 ii rfl Try.underlying30 HI.out HZ0.out HZ1.out HZ2.out v lt [t'] (some ⟨W3.heap.size, 0, none⟩) 1 1 (by rfl) (by rfl) HO.out hr1.out hbs.out (by omega) ?_
          intro v1 w5 hown hgrow hat
          obtain ⟨a7, cap7, hv7⟩ := own_len1 hown
          subst hv7
          obtain ⟨g1, g2, g3, g4⟩ := HS3.out.grown hbl.out hgrow
          refine hK'.out _ _ (fun _ => ⟨g1, g2, g3⟩) (fun hHeld => ?_)
          replace hHeld := hHeld (by decide)
          have HVG4 : Aside0 ((Value.slice a7 (lt.length + 1) cap7).ownBlock ≠ some g') := ⟨fun e => by rcases hat with h | h; exact HVG.out (h.symm.trans e); rw [h] at e; cases e; have := HLG.out; have := KP3.out.from_.size; have := hbl.out.size; omega⟩
          have HS4 := Aside0.mk (HS3.out.app hbl.out hgrow hown hat)
          have KP4 := Aside0.mk (((KP3.out.trans (Kps.new hbl.out)).trans (Kps.grown hgrow HVG.out (fun x hx => row_cells (HS3.out.step hbl.out).jd.jour.2.2 hx))).trans (Kps.set w5 w.heap.size 1 (.slice a7 (lt.length + 1) cap7) (by have := HG.out; omega)))
          clear hK' K' hown hgrow hat
          simp only [Act.put, List.setIfInBounds_toArray, List.set_cons_zero, List.set_cons_succ]
          refine wpT_take (i := 8) (some 42) (v := ?_) rfl (by kernel_rfl) (by kernel_rfl) (by kernel_rfl) (by kernel_rfl) (fun _ _ _ h => h) rfl (Or.inl ⟨by rfl, ?_⟩) (by assumption) ?_
          rotate_left
          · intro w hSw; (try dsimp only at hSw); go_simp; (try with_reducible rfl)
          try simp only [Act.put, List.setIfInBounds_toArray, List.set_cons_zero, List.set_cons_succ]
          refine wpT_take (i := 9) (some 43) (v := ?_) rfl (by kernel_rfl) (by kernel_rfl) (by kernel_rfl) (by kernel_rfl) (fun _ _ _ h => h) rfl (Or.inl ⟨by rfl, ?_⟩) (by assumption) ?_
          rotate_left
          · intro w hSw; (try dsimp only at hSw); go_simp; (try with_reducible rfl)
          try simp only [Act.put, List.setIfInBounds_toArray, List.set_cons_zero, List.set_cons_succ]
          refine wpT_ready (rs := [10]) (by kernel_rfl) (by simp) ?_
          refine AllT.cons rfl (fun K' hK' => ?_) AllT.nil
          go_simp
          refine hK'.out _ _ (fun h => absurd h (by decide)) (fun _ => ?_)
          refine wpT_done (by kernel_rfl) ?_ _
          refine hK.out _ _ ?_
          clear hK hHeld hK' K K' HS3 KP3 c1 c2 c3 c4 c5 c6 e1 e2 e3 HO hr1 hbs g1 g2 g3 g4
          generalize w5.setCell ⟨w.heap.size, 1, none⟩ (.slice a7 (lt.length + 1) cap7) = W4 at HS4 KP4 ⊢
          obtain ⟨c1, c2, c3, c4, c5, c6⟩ := HS4.out.cells
          have f2 := c5 2
          have wk : IntKind.i64.wrap ((k : Int) + 1) = (k : Int) + 1 := IntWalk.i64_in _ (by omega)
          gi_wp2
          refine region_round_T (fun w' => w'.cell? ⟨w.heap.size + 1, 0, none⟩ = some (.pointer (some ⟨w.heap.size, 0, none⟩))) 4 (by kernel_rfl) (by kernel_rfl) c1 (fun K hK hHeld => ?_)
          refine wpT_take (i := 0) (some 44) (v := ?_) rfl (by kernel_rfl) (by kernel_rfl) (by kernel_rfl) (by kernel_rfl) (fun _ _ _ h => h) rfl (Or.inl ⟨by rfl, ?_⟩) (by assumption) ?_
          rotate_left
          · intro w hSw; (try dsimp only at hSw); go_simp; (try with_reducible rfl)
          try simp only [Act.put, List.setIfInBounds_toArray, List.set_cons_zero, List.set_cons_succ]
          refine wpT_take (i := 1) (some 45) (v := ?_) rfl (by kernel_rfl) (by kernel_rfl) (by kernel_rfl) (by kernel_rfl) (fun _ _ _ h => h) rfl (Or.inl ⟨by rfl, ?_⟩) (by assumption) ?_
          rotate_left
          · intro w hSw; (try dsimp only at hSw); go_simp; (try with_reducible rfl)
          try simp only [Act.put, List.setIfInBounds_toArray, List.set_cons_zero, List.set_cons_succ]
          refine wpT_take (i := 2) (some 46) (v := ?_) rfl (by kernel_rfl) (by kernel_rfl) (by kernel_rfl) (by kernel_rfl) (fun _ _ _ h => h) rfl (Or.inl ⟨by rfl, ?_⟩) (by assumption) ?_
          rotate_left
          · intro w hSw; (try dsimp only at hSw); go_simp; (try with_reducible rfl)
          try simp only [Act.put, List.setIfInBounds_toArray, List.set_cons_zero, List.set_cons_succ]
          refine wpT_ready (rs := [3]) (by kernel_rfl) (by simp) ?_
          refine AllT.cons rfl (fun K' hK' => ?_) AllT.nil
          go_simp
          have HS5 := Aside0.mk (HS4.out.text ⟨#[]⟩)
          have g1 := HS5.out.cells
          refine hK'.out _ _ (fun _ => g1.1) (fun hHeld => ?_)
          replace hHeld := hHeld (by decide)
          clear hK' K'
          refine wpT_take (i := 4) (some 47) (v := ?_) rfl (by kernel_rfl) (by kernel_rfl) (by kernel_rfl) (by kernel_rfl) (fun _ _ _ h => h) rfl (Or.inl ⟨by rfl, ?_⟩) (by assumption) ?_
          rotate_left
          · intro w hSw; (try dsimp only at hSw); go_simp; (try with_reducible rfl)
          try simp only [Act.put, List.setIfInBounds_toArray, List.set_cons_zero, List.set_cons_succ]
          refine wpT_take (i := 5) (some 48) (v := ?_) rfl (by kernel_rfl) (by kernel_rfl) (by kernel_rfl) (by kernel_rfl) (fun _ _ _ h => h) rfl (Or.inl ⟨by rfl, ?_⟩) (by assumption) ?_
          rotate_left
          · intro w hSw; (try dsimp only at hSw); go_simp; (try with_reducible rfl)
          try simp only [Act.put, List.setIfInBounds_toArray, List.set_cons_zero, List.set_cons_succ]
          obtain ⟨g1, g2, g3, g4, g5, g6⟩ := g1
          have g7 := g5 2
          refine wpT_ready (rs := [6]) (by kernel_rfl) (by simp) ?_
          refine AllT.cons rfl (fun K' hK' => ?_) AllT.nil
          go_simp
          refine hK'.out _ _ (fun h => absurd h (by decide)) (fun _ => ?_)
          refine wpT_done (by kernel_rfl) ?_ _
          refine hK.out _ _ ?_
          have HS6 := (HS5.out.setE (z := (k : Int) + 1) (k + 1) (by omega)).step (bdrew (Below.refl _ _))
          have KP6 := ((KP4.out.trans (Kps.set W4 (w.heap.size + 1 + 1) 0 (.string ⟨#[]⟩) (by have := HG.out; omega))).trans (Kps.set _ w.heap.size 2 (.int .i64 ((k : Int) + 1)) (by have := HG.out; omega))).trans (Kps.drew _)
          exact ⟨KP6.from_, KP6.keep, by show OpI w b p g g' D pre1.length _; rw [hsn]; exact ⟨_, lt ++ [t'], k + 1, ⟨#[]⟩, HS6, HVG4.out, HSC.out, by simp [ByteArray.size], Nat.le_refl _, by simp; omega⟩⟩
        · rw [if_neg hm2] at HSC
          have q3 : ((m : Int) == 2) = false := beq_eq_false_iff_ne.2 (by omega)
          gi_wp2
          exact ⟨KP3.out.from_, rfl, v, t', by rw [HSC.out]; exact HS3.out⟩
end Go.Proofs.Ytpnnnhdhmdildaa.Given
end
section
/- The journal's calls, as the laws use them. -/
set_option linter.unusedVariables false
set_option linter.unusedSimpArgs false
namespace Go.Proofs.Ytpnnnhdhmdildaa.Given
open Go.RowKit Go.Proofs.YtpnnnhdhmdildaaW.PrintWords Go.Proofs.Ytpnnnhdhmdildaa.J Go.Proofs.Ytpnnnhdhmdildaa.RF
/-- A disk of a law's own. -/
structure LD (w : World) (p g : Nat) (D : DS) (W : World) : Prop where
  disk : DiskAt w.heap.size p g D W
  below : Below w.heap.size w W
/-- A journal of a law's own, on its disk. -/
structure LJ (w : World) (p g q : Nat) (v : Value) (J : JS) (D : DS) (W : World) : Prop where
  jd : JD w.heap.size q p g v J D W
  below : Below w.heap.size w W
section
variable {w : World} {p g q : Nat} {v : Value} {J : JS} {D : DS} {W W' : World}
theorem LD.step (h : LD w p g D W) (hb : Below W.heap.size W W') : LD w p g D W' := ⟨h.disk.ch (S := fun _ => False) (Ch.of_new hb) id id, h.below.trans (hb.mono h.below.size)⟩
theorem LJ.step (h : LJ w p g q v J D W) (hb : Below W.heap.size W W') : LJ w p g q v J D W' := ⟨h.jd.step hb, h.below.trans (hb.mono h.below.size)⟩
theorem LJ.ld (h : LJ w p g q v J D W) : LD w p g D W := ⟨h.jd.disk, h.below⟩
theorem LJ.own (h : LJ w p g q v J D W) : ∀ i, JOwn q p g v i → w.heap.size ≤ i := by
  rintro i (rfl | rfl | rfl | e)
  · exact h.jd.jour.1
  · exact h.jd.disk.1
  · exact h.jd.disk.g.1
  · exact (h.jd.jour.2.2.lt i e).1
theorem new_l (n : Int) (k : Nat) (w : World) (hk : max 1 (min n 2000) = (k : Int)) : Calls Try.prog 9 #[.int .i64 n] w fun e w' => ∃ p g, e = .returned (.pointer (some ⟨p, 0, none⟩)) ∧ LD w p g (newD k) w' :=
  (new_call n k w hk).mono fun e w' ⟨p, g, h1, h2, h3⟩ => ⟨p, g, h1, h2, h3⟩
theorem open_l (h : LD w p g D W) (hD : D.Ok) {l : List ByteArray} {e : Nat} (hG : Go.Proofs.Ytpnnnhdhmdildaa.J.Good D.secs l e) : Calls Try.prog 10 #[.pointer (some ⟨p, 0, none⟩)] W fun e' W' => ∃ q v, e' = .returned (.pointer (some ⟨q, 0, none⟩)) ∧ LJ w p g q v ⟨l, e, false⟩ D W' ∧ Below W.heap.size W W' ∧ W.heap.size ≤ q ∧ ∀ x, v.ownBlock = some x → W.heap.size ≤ x :=
  (open_call h.disk hD h.below.size).mono fun e' W' ⟨q, v, h1, h2, h3, h4⟩ => ⟨q, v, h1, by rw [open_good hG] at h2; exact ⟨h2, h.below.trans (h3.mono h.below.size)⟩, h3, h4⟩
theorem commit_l (h : LJ w p g q v J D W) (hD : D.Ok) (hll : -4611686018427387904 + 2001 ≤ D.left) (he : J.e ≤ 2000) (hJl : J.l.length ≤ 2000) (s : ByteArray) (hs : s.size ≤ 60000) {z : Int} {J' : JS} {D' : DS} (hc : J.commit D s = (z, J', D')) :
    Calls Try.prog 11 #[.pointer (some ⟨q, 0, none⟩), .string s] W fun e W' => e = .returned (.int .i64 z) ∧ ∃ v', LJ w p g q v' J' D' W' ∧ Ch (JOwn q p g v) W W' ∧ (v'.ownBlock = v.ownBlock ∨ ∀ x, v'.ownBlock = some x → W.heap.size ≤ x) :=
  (commit_call h.jd hD hll he hJl s hs).mono fun e W' k => by
    unfold CommitPost at k
    rw [hc] at k
    obtain ⟨k1, v', k2, k3, k4⟩ := k
    exact ⟨k1, v', ⟨k2, k3.below h.below (Nat.le_refl _) h.own⟩, k3, k4⟩
theorem arm_l (h : LJ w p g q v J D W) (n k : Int) : Calls Try.prog 12 #[.pointer (some ⟨p, 0, none⟩), .int .i64 n, .int .i64 k] W fun e W' => e = .returned (.tuple #[]) ∧ LJ w p g q v J { D with armed := true, left := max n 0, keep := max 0 (min k 32) } W' ∧ Ch (Own p g) W W' :=
  (arm_call h.jd.disk n k).mono fun e W' k => ⟨k.1, ⟨h.jd.wrote k.2.1 k.2.2, k.2.2.below h.below (Nat.le_refl _) (fun i hi => h.own i (by rcases hi with e | e; exact .inr (.inl e); exact .inr (.inr (.inl e))))⟩, k.2.2⟩
theorem revive_l (h : LJ w p g q v J D W) : Calls Try.prog 13 #[.pointer (some ⟨p, 0, none⟩)] W fun e W' => e = .returned (.tuple #[]) ∧ LJ w p g q v J { D with down := false } W' ∧ Ch (Own p g) W W' :=
  (revive_call h.jd.disk).mono fun e W' k => ⟨k.1, ⟨h.jd.wrote k.2.1 k.2.2, k.2.2.below h.below (Nat.le_refl _) (fun i hi => h.own i (by rcases hi with e | e; exact .inr (.inl e); exact .inr (.inr (.inl e))))⟩, k.2.2⟩
theorem len_l (h : LJ w p g q v J D W) {n : Int} (hn : (J.l.length : Int) = n) : Calls Try.prog 14 #[.pointer (some ⟨q, 0, none⟩)] W fun e W' => e = .returned (.int .i64 n) ∧ LJ w p g q v J D W' ∧ Below W.heap.size W W' :=
  (len_call h.jd.jour).mono fun e W' k => ⟨by rw [← hn]; exact k.1, h.step k.2.below, k.2.below⟩
theorem end_l (h : LJ w p g q v J D W) {n : Int} (hn : (J.e : Int) = n) : Calls Try.prog 15 #[.pointer (some ⟨q, 0, none⟩)] W fun e W' => e = .returned (.int .i64 n) ∧ LJ w p g q v J D W' ∧ Below W.heap.size W W' :=
  (end_call h.jd.jour).mono fun e W' k => ⟨by rw [← hn]; exact k.1, h.step k.2.below, k.2.below⟩
theorem pieces_l (s : ByteArray) (W : World) (hs : s.size ≤ 1000000) : Calls Try.prog 16 #[.string s] W fun e W' => ∃ a cap, e = .returned (.slice a (np s) cap) ∧ OwnP W (.slice a (np s) cap) (piecesL s) W' :=
  (PT s W hs).mono fun e W' ⟨v, h1, h2⟩ => by
    obtain ⟨a, cap, hv⟩ := own_len h2.row
    subst hv
    exact ⟨a, cap, h1, h2⟩
end
theorem ok_of {D : DS} (h : D.Ok) (a d : Bool) (l k : Int) (h0 : 0 ≤ k) (h1 : k ≤ 32) (h2 : -4611686018427387904 ≤ l) (h3 : l ≤ 9223372036854775807) : DS.Ok { secs := D.secs, armed := a, left := l, keep := k, down := d } := ⟨h.one, h.most, h.size, h0, h1, h2, h3⟩
theorem newD_good (k : Nat) : J.Good (newD k).secs [] 0 := J.Good.fresh _ fun s hs => by
  simp [newD] at hs
  rw [hs.2, wholeS_mk (by decide)]
  decide
end Go.Proofs.Ytpnnnhdhmdildaa.Given
end
