/- Any text: as a word, read, its parts: all as the reference says. For every input. No condition. -/
import Derived.Test.YtkfjaijjkbadfaaEscPlain
import Derived.Test.YtkfjaijjkbadfaaPEscape
set_option linter.unusedVariables false
set_option linter.unusedSimpArgs false
namespace Go.Proofs.Ytkfjaijjkbadfaa.Given
open Go.RowKit Go.Proofs.YtkfjaijjkbadfaaW.PrintWords Go.Proofs.YtkfjaijjkbadfaaW.PrintMore Go.Proofs.Ytkfjaijjkbadfaa.RF
attribute [local go_sem] Oper.semAt_some
/-! ### contracts in clear -/
theorem word_call (s : ByteArray) (w : World) (hs : s.size ≤ 1000000) : Calls Try.prog 7 #[.string s] w fun e w' => e = .returned (.bool (B.wordB (bytesOf s))) ∧ Drawn0 w w' := by
  obtain ⟨k, hk⟩ := (B.word_ev s (by omega)).rounds
  exact Q.escape_Word.calls k s _ w hk
theorem rword_call (s : ByteArray) (w : World) (hs : s.size ≤ 1000000) : Calls Try.prog 14 #[.string s] w fun e w' => e = .returned (.bool (B.wordB (bytesOf s))) ∧ Drawn0 w w' := by
  obtain ⟨k, hk⟩ := (B.rword_ev s (by omega)).rounds
  exact Q.ammoniteref10_Word.calls k s _ w hk
theorem rescape_call (s : ByteArray) (w : World) (hs : s.size ≤ 1000000) : Calls Try.prog 13 #[.string s] w fun e w' => ∃ p : ByteArray, e = .returned (.string p) ∧ bytesOf p = escL (bytesOf s) ∧ Drawn0 w w' := by
  obtain ⟨r, h, hr⟩ := B.rescape_ev s hs
  obtain ⟨k, hk⟩ := h.rounds
  exact (Q.ammoniteref10_Escape.calls k s _ w hk).mono fun e w' h => ⟨r, h.1, hr, h.2⟩
/-- Read, as it answers: the text, or none. -/
def unT (s : ByteArray) : ByteArray := match unL (bytesOf s) with | none => ⟨#[]⟩ | some l => strOfNums l
def unI (s : ByteArray) : Bool := (unL (bytesOf s)).isSome
theorem unR_eq (s : ByteArray) : unR (unL (bytesOf s)) = .tuple #[.string (unT s), .bool (unI s)] := by
  unfold unR unT unI
  cases unL (bytesOf s) <;> rfl
theorem runesc_call (s : ByteArray) (w : World) (hs : s.size ≤ 1000000) : Calls Try.prog 11 #[.string s] w fun e w' => e = .returned (.tuple #[.string (unT s), .bool (unI s)]) ∧ Drawn0 w w' := by
  obtain ⟨k, hk⟩ := (B.runesc_ev s hs).rounds
  refine Q.ammoniteref10_Unescape.calls k s _ _ w (hk.trans ?_)
  unfold B.unO unT unI
  cases unL (bytesOf s) with
  | none => rfl
  | some l => simp [bytesOf]
theorem read_any (s : ByteArray) (w : World) (hs : s.size ≤ 1000000) : Calls Try.prog 9 #[.string s] w fun e w' => e = .returned (.tuple #[.string (unT s), .bool (unI s)]) ∧ Below w.heap.size w w' :=
  (read_walk s w hs).mono fun e w' h => ⟨by rw [h.1, unR_eq], h.2⟩
/-- What a law's walk carries: the result's box, and that nothing that lay has turned. -/
def Car (w : World) (B : Nat) (W : World) : Prop := Boxed W B 4 (.bool false) ∧ Below B w W
theorem Car.step {w : World} {B : Nat} {W W' : World} (h : Car w B W) (hB : B ≤ w.heap.size) (b : Below W.heap.size W W') : Car w B W' :=
  ⟨boxed_below h.1 b h.1.lt, h.2.trans (b.mono (Nat.le_trans hB h.2.size))⟩
theorem Car.draw {w : World} {B : Nat} {W W' : World} (h : Car w B W) (hB : B ≤ w.heap.size) (d : Drawn0 W W') : Car w B W' := h.step hB d.below
/-- What is carried to the end: the boxes of the loops' variables; the marks. -/
def Fin4 (w : World) (Bz bv m D D2 : Nat) (raw : ByteArray) (n c mm : Int) (W : World) : Prop :=
  Boxed W bv 9 (.string raw) ∧ Boxed W (bv + 1) 3 (.int .i64 n) ∧ Boxed W (bv + 2) 3 (.int .i64 c) ∧ Boxed W m 3 (.int .i64 mm) ∧ Car w Bz W ∧ W.heap[D]? = some (.deferred (some [])) ∧ W.heap[D2]? = some (.deferred (some []))
theorem Fin4.step {w : World} {Bz bv m D D2 : Nat} {raw : ByteArray} {n c mm : Int} {W W' : World} (h : Fin4 w Bz bv m D D2 raw n c mm W) (hB : Bz ≤ w.heap.size) (b : Below W.heap.size W W') : Fin4 w Bz bv m D D2 raw n c mm W' := by
  obtain ⟨h1, h2, h3, h4, h5, h6, h7⟩ := h
  exact ⟨boxed_below h1 b h1.lt, boxed_below h2 b h2.lt, boxed_below h3 b h3.lt, boxed_below h4 b h4.lt, h5.step hB b, (b.block _ (Array.getElem?_eq_some_iff.1 h6).1).trans h6, (b.block _ (Array.getElem?_eq_some_iff.1 h7).1).trans h7⟩
theorem Fin4.cells {w : World} {Bz bv m D D2 : Nat} {raw : ByteArray} {n c mm : Int} {W : World} (h : Fin4 w Bz bv m D D2 raw n c mm W) :
    W.cell? ⟨bv, 0, none⟩ = some (.string raw) ∧ W.cell? ⟨bv + 1, 0, none⟩ = some (.int .i64 n) ∧ W.cell? ⟨bv + 2, 0, none⟩ = some (.int .i64 c) ∧ W.cell? ⟨m, 0, none⟩ = some (.int .i64 mm) ∧ W.cell? ⟨Bz, 0, none⟩ = some (.bool false) ∧ W.frozen? ⟨Bz, 0, none⟩ = false := by
  obtain ⟨h1, h2, h3, h4, h5, _⟩ := h
  exact ⟨h1.cell, h2.cell, h3.cell, h4.cell, h5.1.cell, h5.1.frozen⟩
set_option maxHeartbeats 8000000 in
set_option maxRecDepth 100000 in
theorem tells_walk (a0 a1 : ByteArray) (a2 : Int) (w : World) (h0 : a0.size ≤ 140737488351232) (h1 : a1.size ≤ 140737488351232) (h2 : (Lit.int .i64 a2).wf = true) :
    Calls Try.prog 4 #[.string a0, .string a1, .int .i64 a2] w fun e w' => e = .returned (.bool true) ∧ Below w.heap.size w w' := by
  refine (callsIn_wide (n := 5)).1 ?_
  refine callsIn_of_wp_marks Try.func4 rfl trivial ?_ rfl
  simp only [Try.ntmps4, List.size_toArray, List.length_cons, List.length_nil, Nat.reduceAdd, Nat.reduceSub, Array.replicate_succ, Array.replicate_zero, List.push_toArray, List.append_toArray, List.nil_append, List.cons_append]
  refine wpIn_wide.2 ?_
  obtain ⟨m0, hm0⟩ : ∃ m : Nat, min (a0.size : Int) 30 = m := ⟨min a0.size 30, by omega⟩
  obtain ⟨m1, hm1⟩ : ∃ m : Nat, min (a1.size : Int) 30 = m := ⟨min a1.size 30, by omega⟩
  have l0 : m0 ≤ a0.size ∧ m0 ≤ 30 := by omega
  have l1 : m1 ≤ a1.size ∧ m1 ≤ 30 := by omega
  have s0 : (a0.extract 0 m0).size ≤ 30 := by rw [ByteArray.size_extract]; omega
  have s1 : (a1.extract 0 m1).size ≤ 30 := by rw [ByteArray.size_extract]; omega
  go_wp2
  go_quiet (fail)
  generalize a0.extract 0 m0 = s at s0 ⊢
  generalize a1.extract 0 m1 = raw at s1 ⊢
  clear hm0 hm1 l0 l1
  -- what Read says of raw
  have hrd := fun W => read_any raw W (by omega)
  have hru := fun W => runesc_call raw W (by omega)
  have hyy : unI raw = true → escL (bytesOf (unT raw)) = bytesOf raw ∧ (unT raw).size ≤ 1000000 := by
    intro h
    unfold unI at h
    unfold unT
    cases hu : unL (bytesOf raw) with
    | none => rw [hu] at h; cases h
    | some l =>
      have hl := escL_un _ _ _ (Nat.le_refl _) hu
      have hlen := unL_len _ _ _ (Nat.le_refl _) hu
      rw [bytesOf_length] at hlen
      have hb : bytesOf (strOfNums l) = l := bytes_nums fun x hx => unL_mem _ _ _ (Nat.le_refl _) hu (bytesOf_lt raw) x hx
      exact ⟨by rw [hb]; exact hl, by rw [nums_len]; omega⟩
  have hnn : unI raw = false → unT raw = ⟨#[]⟩ := by
    intro h
    unfold unI at h
    unfold unT
    cases hu : unL (bytesOf raw) with
    | none => rfl
    | some l => rw [hu] at h; cases h
  have hwd := fun W => word_call raw W (by omega)
  have hrw := fun W => rword_call raw W (by omega)
  generalize B.wordB (bytesOf raw) = wd at hwd hrw
  generalize unT raw = y at hrd hru hyy hnn
  generalize unI raw = is_ at hrd hru hyy hnn
  have hput := fun W => put_call s W (by omega)
  obtain ⟨wf1, wf2, wf3, wf4⟩ := words_facts raw.size raw (Nat.le_refl _)
  have RD := Aside0.mk hrd
  have RU := Aside0.mk hru
  have YY := Aside0.mk hyy
  have WD := Aside0.mk hwd
  have RW := Aside0.mk hrw
  have PUT := Aside0.mk hput
  have WF1 := Aside0.mk wf1
  have WF2 := Aside0.mk wf2
  have NN := Aside0.mk hnn
  clear hrd hru hyy hwd hrw hput wf1 wf2 hnn
  have b0 := Boxed.new w 4 (.bool false)
  have bb := below_drawn ((Below.refl _ w).alloc (Nat.le_refl _) (.cells #[.bool false] 4)) ⟨⟨nq, rfl⟩⟩
  have b0 : Boxed ((w.alloc (.cells #[.bool false] 4)).drewN nq) w.heap.size 4 (.bool false) := b0
  generalize (w.alloc (.cells #[.bool false] 4)).drewN nq = W1 at b0 bb ⊢
  obtain ⟨Bz, hB⟩ : ∃ B, w.heap.size = B := ⟨_, rfl⟩
  rw [hB] at b0 bb ⊢
  have hbb : Bz ≤ w.heap.size := Nat.le_of_eq hB.symm
  have HBW := Aside0.mk hB
  have C0 := Aside0.mk (show Car w Bz W1 from ⟨b0, bb⟩)
  clear b0 bb hB
  have hcase : is_ = true ∨ (is_ = false ∧ y = ⟨#[]⟩) := by
    cases is_ with
    | true => exact .inl rfl
    | false => exact .inr ⟨rfl, NN.out rfl⟩
  clear NN
  rcases hcase with rfl | ⟨rfl, rfl⟩
  all_goals
    go_wp2_with (first
      | (go_at_call 10; (with_reducible refine (PUT.out _).mono ?_); rintro e wp ⟨p, rfl, hp, bp⟩; have HP := Aside0.mk hp; have C1 := Aside0.mk (C0.out.step hbb bp); clear hp bp C0)
      | (go_at_call 9; (with_reducible refine (RD.out _).mono ?_); rintro e wr ⟨rfl, br⟩; have C3 := Aside0.mk (C2.out.step hbb br); clear br C2)
      | (go_at_call 9; refine (read_call _ s _ (by have := congrArg List.length HP.out; rw [bytesOf_length] at this; have := escL_len (bytesOf s); rw [bytesOf_length] at this; omega) (by rw [HP.out]; exact unL_esc _)).mono ?_; rintro e wq ⟨rfl, bq⟩; have C2 := Aside0.mk (C1.out.step hbb bq); clear bq C1)
      | (go_at_call 11; (with_reducible refine (RU.out _).mono ?_); rintro e wu ⟨rfl, du⟩; have C4 := Aside0.mk (C3.out.draw hbb du); clear du C3)
      | (go_at_call 7; (with_reducible refine (Q.escape_Word.calls 20 _ true _ word_ok).mono ?_); rintro e wv ⟨rfl, dv⟩; have C5 := Aside0.mk (C4.out.draw hbb dv); clear dv C4)
      | (go_at_call 12; refine (within_call _ 1 9 _ (by omega) (by omega) (by omega)).mono ?_; rintro e wx ⟨c, rfl, c0, c1, dx⟩)
      | (go_at_call 8; (with_reducible refine (words_make _ _).mono ?_); rintro e w' ⟨rfl, rfl⟩))
    -- ahead of the first loop
    have g14 : Boxed ((wv.alloc (.cells #[.string ⟨#[]⟩] 9)).alloc (.cells #[.int .i64 0] 3)) wv.heap.size 9 (.string ⟨#[]⟩) := (Boxed.new wv 9 _).alloc _
    have g15 : Boxed ((wv.alloc (.cells #[.string ⟨#[]⟩] 9)).alloc (.cells #[.int .i64 0] 3)) (wv.heap.size + 1) 3 (.int .i64 0) := by
      have := Boxed.new (wv.alloc (.cells #[.string ⟨#[]⟩] 9)) 3 (.int .i64 0)
      rwa [World.size_alloc] at this
    have bx : Below wv.heap.size wv wx := ((((Below.refl _ wv).alloc (Nat.le_refl _) _).alloc (by simp) _).trans (dx.below.mono (by simp; omega)))
    have sx : wx.heap.size = wv.heap.size + 2 := by obtain ⟨k_, hk_⟩ := dx.out; rw [hk_]; simp
    have g14 := boxed_below g14 dx.below g14.lt
    have g15 := boxed_below g15 dx.below g15.lt
    have C6 := C5.out.step hbb bx
    have lz : Bz < wv.heap.size := C5.out.1.lt
    have k14 := (g14.alloc (.cells #[.int .i64 c] 3)).alloc (.cells #[.string raw] 9)
    have k15 := (g15.alloc (.cells #[.int .i64 c] 3)).alloc (.cells #[.string raw] 9)
    have k16 := (Boxed.new wx 3 (.int .i64 c)).alloc (.cells #[.string raw] 9)
    have kw := Boxed.new (wx.alloc (.cells #[.int .i64 c] 3)) 9 (.string raw)
    have kc : Car w Bz ((wx.alloc (.cells #[.int .i64 c] 3)).alloc (.cells #[.string raw] 9)) := C6.step hbb (((Below.refl _ wx).alloc (Nat.le_refl _) _).alloc (by simp) _)
    have ks : ((wx.alloc (.cells #[.int .i64 c] 3)).alloc (.cells #[.string raw] 9)).heap.size = wx.heap.size + 2 := by simp
    rw [World.size_alloc] at kw
    clear g14 g15 bx dx C5 C6
    generalize (wx.alloc (.cells #[.int .i64 c] 3)).alloc (.cells #[.string raw] 9) = W0 at k14 k15 k16 kw kc ks ⊢
    generalize hbx : wx.heap.size = bx at sx k16 kw ks ⊢
    generalize hbv : wv.heap.size = bv at sx k14 k15 lz ⊢
    clear hbx hbv
    subst sx
    have ka : W0.heap.size ≤ bv + 2 + 2 := Nat.le_of_eq ks
    have kb : bv + 2 + 2 ≤ W0.heap.size := Nat.le_of_eq ks.symm
    clear ks
    have HY := words_yield 4 (by omega) (bv + 2 + 1) raw (by omega) W0 kw
    clear kw
    refine (wpIn_wide (n := 5)).1 ?_
    refine range_own (n := 5) rfl (by omega) (gf := 16) (lb := #[.pointer (some ⟨bv + 2 + 1, 0, none⟩)]) rfl trivial (enters_of Try.func16 (by kernel_rfl) rfl)
      HY (fun r hr => by omega) (fun h k => KpBox.trans h k) (fun W l o hl => (KpBox.refl _ W).put l (by omega) o) (Below.refl _ _) (fun _ => rfl)
      (fun pre W => Boxed W bv 9 (.string (joinB pre)) ∧ Boxed W (bv + 1) 3 (.int .i64 (pre.length : Int)) ∧ Boxed W (bv + 2) 3 (.int .i64 c) ∧ Car w Bz W) (fun _ _ _ => False)
      (fun s X Y ht h => ⟨ht.boxed h.1 (by omega) (by omega), ht.boxed h.2.1 (by omega) (by omega), ht.boxed h.2.2.1 (by omega) (by omega), ht.boxed h.2.2.2.1 (by omega) (by omega), ht.below h.2.2.2.2 hbb (fun r hr => by omega) (by omega)⟩)
      (fun _ _ _ _ _ h => h) ⟨k14, k15, k16, kc⟩ ?round ?done ?stop
    case stop =>
      intro D c' pre W _ _ h
      exact h.elim
    case round =>
      intro l pre x W hp hl hI
      gi_wp2
      refine ⟨KeepsFrom.refl _ _, KpBox.refl _ _, fun Wb ht _ => ?_⟩
      obtain ⟨i1, i2, i3, i4⟩ : Boxed Wb bv 9 (.string (joinB pre)) ∧ Boxed Wb (bv + 1) 3 (.int .i64 (pre.length : Int)) ∧ Boxed Wb (bv + 2) 3 (.int .i64 c) ∧ Car w Bz Wb :=
        ⟨ht.boxed hI.1 (by omega) (by omega), ht.boxed hI.2.1 (by omega) (by omega), ht.boxed hI.2.2.1 (by omega) (by omega), ht.boxed hI.2.2.2.1 (by omega) (by omega), ht.below hI.2.2.2.2 hbb (fun r hr => by omega) (by omega)⟩
      have hmem : ∀ z ∈ pre ++ [x], (∀ c ∈ bytesOf z, c ≠ 32) ∧ z.size ≤ raw.size := fun z hz => WF2.out z (hp.subset hz)
      have hlen : pre.length + 1 ≤ 31 := by have := hp.length_le; rw [List.length_append] at this; simp at this; omega
      have hx := hmem x (by simp)
      have hj : (joinB pre).size ≤ 961 := by
        have := joinB_len 30 pre (fun z hz => Nat.le_trans (hmem z (by simp [hz])).2 s1)
        have h2 : pre.length * (30 + 1) ≤ 30 * 31 := Nat.mul_le_mul (by omega) (by omega)
        omega
      have l1_ := i1.lt
      have l2_ := i2.lt
      have c1_ := i1.cell
      have c2_ := i2.cell
      have f1_ := i1.frozen
      have f2_ := i2.frozen
      by_cases hp0 : pre = []
      · subst hp0
        simp only [List.length_nil] at i2 c2_
        have hj1 : (joinB []).size + x.size ≤ 9223372036854775807 := by omega
        gi_wp2
        have j1 : Boxed ((Wb.setCell ⟨bv, 0, none⟩ (.string (joinB [] ++ x))).setCell ⟨bv + 1, 0, none⟩ (.int .i64 1)) bv 9 (.string (joinB ([] ++ [x]))) := by
          have e : joinB ([] ++ [x]) = joinB [] ++ x := by apply bytes_inj; simp [joinB, bytesOf, ByteArray.data_append]
          rw [e]
          exact (i1.set _).other (by omega) _
        have j2 : Boxed ((Wb.setCell ⟨bv, 0, none⟩ (.string (joinB [] ++ x))).setCell ⟨bv + 1, 0, none⟩ (.int .i64 1)) (bv + 1) 3 (.int .i64 ((([] ++ [x] : List ByteArray).length : Nat) : Int)) := (i2.other (by omega) _).set _
        have j3 := (i3.other (B' := bv) (by omega) (.string (joinB [] ++ x))).other (B' := bv + 1) (by omega) (.int .i64 1)
        have j4 : Car w Bz ((Wb.setCell ⟨bv, 0, none⟩ (.string (joinB [] ++ x))).setCell ⟨bv + 1, 0, none⟩ (.int .i64 1)) := ⟨(i4.1.other (by omega) _).other (by omega) _, (i4.2.setCell (p := ⟨bv, 0, none⟩) (by simp; omega) _).setCell (p := ⟨bv + 1, 0, none⟩) (by simp; omega) _⟩
        have jk : KeepsOthers Wb ((Wb.setCell ⟨bv, 0, none⟩ (.string (joinB [] ++ x))).setCell ⟨bv + 1, 0, none⟩ (.int .i64 1)) := (KeepsOthers.setCell _ _ _).trans (KeepsOthers.setCell _ _ _)
        have jp : KpBox (bv + 2 + 1) Wb ((Wb.setCell ⟨bv, 0, none⟩ (.string (joinB [] ++ x))).setCell ⟨bv + 1, 0, none⟩ (.int .i64 1)) := ((KpBox.refl _ Wb).set _ (by simp; omega) _).set _ (by simp) _
        generalize ((Wb.setCell ⟨bv, 0, none⟩ (.string (joinB [] ++ x))).setCell ⟨bv + 1, 0, none⟩ (.int .i64 1)) = W5 at j1 j2 j3 j4 jk jp ⊢
        have FIN := Aside0.mk (show KeepsFrom W0.heap.size Wb W5 ∧ KpBox (bv + 2 + 1) Wb W5 ∧ Boxed W5 bv 9 (.string (joinB ([] ++ [x]))) ∧ Boxed W5 (bv + 1) 3 (.int .i64 ((([] ++ [x] : List ByteArray).length : Nat) : Int)) ∧ Boxed W5 (bv + 2) 3 (.int .i64 c) ∧ Car w Bz W5 from ⟨jk.from _, jp, j1, j2, j3, j4⟩)
        clear j1 j2 j3 j4 jk jp c1_ c2_ f1_ f2_ l1_ l2_ i1 i2 i3 i4
        gi_loop [67] (fun i => ∃ k : Nat, i = .int .i64 k ∧ k ≤ x.size) (fun i => x.size - (intOf i).toNat)
        case atStart => exact ⟨0, rfl, Nat.zero_le _⟩
        case round =>
          obtain ⟨k, rfl, hk⟩ := hrel
          by_cases hlt : k < x.size
          · have hxk : ∀ h : k < x.size, ((x[k]'h).toNat : Int) = bt x k := fun h => by have := bt_at x (k : Int); simpa using this (by simpa using h)
            have hn := hx.1 _ (mem_bt hlt)
            generalize bt x k = cc at hxk hn
            have e1 : (cc == 32) = false := by simpa using hn
            clear hn
            gi_wp2
            go_round
            case rel => exact ⟨k + 1, by go_num, by omega⟩
            case measure => simp [intOf]; omega
          · gi_wp2
            exact FIN.out
      · have hpl : 0 < pre.length := List.length_pos_iff.2 hp0
        have hj1 : (joinB pre).size + 1 ≤ 9223372036854775807 := by omega
        gi_wp2
        obtain ⟨sj, hsj⟩ : ∃ sj, sj = (Wb.setCell ⟨bv, 0, none⟩ (.string (joinB pre ++ ⟨#[32]⟩))).setCell ⟨bv, 0, none⟩ (.string (joinB pre ++ ⟨#[32]⟩ ++ x)) := ⟨_, rfl⟩
        rw [← hsj]
        have j1 : Boxed (sj.setCell ⟨bv + 1, 0, none⟩ (.int .i64 ((pre.length : Int) + 1))) bv 9 (.string (joinB (pre ++ [x]))) := by
          rw [joinB_snoc _ _ hp0, hsj]
          exact ((i1.set _).set _).other (by omega) _
        have j2 : Boxed (sj.setCell ⟨bv + 1, 0, none⟩ (.int .i64 ((pre.length : Int) + 1))) (bv + 1) 3 (.int .i64 (((pre ++ [x]).length : Nat) : Int)) := by
          rw [show (((pre ++ [x]).length : Nat) : Int) = (pre.length : Int) + 1 by simp, hsj]
          exact ((i2.other (by omega) _).other (by omega) _).set _
        have j3 : Boxed (sj.setCell ⟨bv + 1, 0, none⟩ (.int .i64 ((pre.length : Int) + 1))) (bv + 2) 3 (.int .i64 c) := by
          rw [hsj]; exact ((i3.other (by omega) _).other (by omega) _).other (by omega) _
        have j4 : Car w Bz (sj.setCell ⟨bv + 1, 0, none⟩ (.int .i64 ((pre.length : Int) + 1))) := by
          rw [hsj]
          exact ⟨((i4.1.other (by omega) _).other (by omega) _).other (by omega) _, ((i4.2.setCell (p := ⟨bv, 0, none⟩) (by simp; omega) _).setCell (p := ⟨bv, 0, none⟩) (by simp; omega) _).setCell (p := ⟨bv + 1, 0, none⟩) (by simp; omega) _⟩
        have jk : KeepsOthers Wb (sj.setCell ⟨bv + 1, 0, none⟩ (.int .i64 ((pre.length : Int) + 1))) := by
          rw [hsj]; exact ((KeepsOthers.setCell _ _ _).trans (KeepsOthers.setCell _ _ _)).trans (KeepsOthers.setCell _ _ _)
        have jp : KpBox (bv + 2 + 1) Wb (sj.setCell ⟨bv + 1, 0, none⟩ (.int .i64 ((pre.length : Int) + 1))) := by
          rw [hsj]; exact (((KpBox.refl _ Wb).set _ (by simp; omega) _).set _ (by simp; omega) _).set _ (by simp) _
        clear hsj
        generalize sj.setCell ⟨bv + 1, 0, none⟩ (.int .i64 ((pre.length : Int) + 1)) = W5 at j1 j2 j3 j4 jk jp ⊢
        have FIN := Aside0.mk (show KeepsFrom W0.heap.size Wb W5 ∧ KpBox (bv + 2 + 1) Wb W5 ∧ Boxed W5 bv 9 (.string (joinB (pre ++ [x]))) ∧ Boxed W5 (bv + 1) 3 (.int .i64 (((pre ++ [x]).length : Nat) : Int)) ∧ Boxed W5 (bv + 2) 3 (.int .i64 c) ∧ Car w Bz W5 from ⟨jk.from _, jp, j1, j2, j3, j4⟩)
        clear j1 j2 j3 j4 jk jp c1_ c2_ f1_ f2_ l1_ l2_ i1 i2 i3 i4
        gi_loop [67] (fun i => ∃ k : Nat, i = .int .i64 k ∧ k ≤ x.size) (fun i => x.size - (intOf i).toNat)
        case atStart => exact ⟨0, rfl, Nat.zero_le _⟩
        case round =>
          obtain ⟨k, rfl, hk⟩ := hrel
          by_cases hlt : k < x.size
          · have hxk : ∀ h : k < x.size, ((x[k]'h).toNat : Int) = bt x k := fun h => by have := bt_at x (k : Int); simpa using this (by simpa using h)
            have hn := hx.1 _ (mem_bt hlt)
            generalize bt x k = cc at hxk hn
            have e1 : (cc == 32) = false := by simpa using hn
            clear hn
            gi_wp2
            go_round
            case rel => exact ⟨k + 1, by go_num, by omega⟩
            case measure => simp [intOf]; omega
          · gi_wp2
            exact FIN.out
    case done =>
      rintro D W hD ⟨i1, i2, i3, i4⟩ hK
      rw [WF1.out] at i1
      obtain ⟨n, hn⟩ : ∃ n, (wordsL raw).length = n := ⟨_, rfl⟩
      rw [hn] at i2 wf3 wf4
      have HK := Aside0.mk hK
      have I1 := Aside0.mk i1
      have I2 := Aside0.mk i2
      have I3 := Aside0.mk i3
      have I4 := Aside0.mk i4
      clear hK i1 i2 i3 i4 HY kc k14 k15 k16
      go_wp2_with (go_at_call 8; (with_reducible refine (words_make _ _).mono ?_); rintro e w' ⟨rfl, rfl⟩)
      have q1 := ((I1.out.alloc (.cells #[.int .i64 0] 3)).alloc (.cells #[.string raw] 9))
      have q2 := ((I2.out.alloc (.cells #[.int .i64 0] 3)).alloc (.cells #[.string raw] 9))
      have q3 := ((I3.out.alloc (.cells #[.int .i64 0] 3)).alloc (.cells #[.string raw] 9))
      have q4 := (Boxed.new W 3 (.int .i64 0)).alloc (.cells #[.string raw] 9)
      have qw := Boxed.new (W.alloc (.cells #[.int .i64 0] 3)) 9 (.string raw)
      have qb : Below W.heap.size W ((W.alloc (.cells #[.int .i64 0] 3)).alloc (.cells #[.string raw] 9)) := ((Below.refl _ W).alloc (Nat.le_refl _) _).alloc (by simp) _
      have qc := I4.out.step hbb qb
      have qk : ((W.alloc (.cells #[.int .i64 0] 3)).alloc (.cells #[.string raw] 9)).heap[D]? = some (.deferred (some [])) := (qb.block D (Array.getElem?_eq_some_iff.1 HK.out).1).trans HK.out
      have qs : ((W.alloc (.cells #[.int .i64 0] 3)).alloc (.cells #[.string raw] 9)).heap.size = W.heap.size + 2 := by simp
      have dl : D < W.heap.size := (Array.getElem?_eq_some_iff.1 HK.out).1
      have m1 : bv + 2 < W.heap.size := I3.out.lt
      rw [World.size_alloc] at qw
      clear qb I1 I2 I3 I4 HK
      generalize (W.alloc (.cells #[.int .i64 0] 3)).alloc (.cells #[.string raw] 9) = W2 at q1 q2 q3 q4 qw qc qk qs ⊢
      generalize W.heap.size = m at q4 qw qs dl m1 ⊢
      have qa : W2.heap.size ≤ m + 2 := Nat.le_of_eq qs
      have qd : m + 2 ≤ W2.heap.size := Nat.le_of_eq qs.symm
      clear qs
      have HY := words_yield 4 (by omega) (m + 1) raw (by omega) W2 qw
      clear qw
      refine (wpIn_wide (n := 5)).1 ?_
      refine range_own (n := 5) rfl (by omega) (gf := 16) (lb := #[.pointer (some ⟨m + 1, 0, none⟩)]) rfl trivial (enters_of Try.func16 (by kernel_rfl) rfl)
        HY (fun r hr => by omega) (fun h k => KpBox.trans h k) (fun W l o hl => (KpBox.refl _ W).put l (by omega) o) (Below.refl _ _) (fun _ => rfl)
        (fun pre W => (pre.length : Int) < c ∧ Boxed W bv 9 (.string raw) ∧ Boxed W (bv + 1) 3 (.int .i64 n) ∧ Boxed W (bv + 2) 3 (.int .i64 c) ∧ Boxed W m 3 (.int .i64 (pre.length : Int)) ∧ Car w Bz W ∧ W.heap[D]? = some (.deferred (some [])))
        (fun cd pre W => cd = .exit 4 ∧ (pre.length : Int) = c ∧ Boxed W bv 9 (.string raw) ∧ Boxed W (bv + 1) 3 (.int .i64 n) ∧ Boxed W (bv + 2) 3 (.int .i64 c) ∧ Boxed W m 3 (.int .i64 (pre.length : Int)) ∧ Car w Bz W ∧ W.heap[D]? = some (.deferred (some [])))
        (fun s X Y ht h => ⟨h.1, ht.boxed h.2.1 (by omega) (by omega), ht.boxed h.2.2.1 (by omega) (by omega), ht.boxed h.2.2.2.1 (by omega) (by omega), ht.boxed h.2.2.2.2.1 (by omega) (by omega), ⟨ht.boxed h.2.2.2.2.2.1.1 (by omega) (by omega), ht.below h.2.2.2.2.2.1.2 hbb (fun r hr => by omega) (by omega)⟩, ht.block h.2.2.2.2.2.2 (by omega) (by omega)⟩)
        (fun cd s X Y ht h => ⟨h.1, h.2.1, ht.boxed h.2.2.1 (by omega) (by omega), ht.boxed h.2.2.2.1 (by omega) (by omega), ht.boxed h.2.2.2.2.1 (by omega) (by omega), ht.boxed h.2.2.2.2.2.1 (by omega) (by omega), ⟨ht.boxed h.2.2.2.2.2.2.1.1 (by omega) (by omega), ht.below h.2.2.2.2.2.2.1.2 hbb (fun r hr => by omega) (by omega)⟩, ht.block h.2.2.2.2.2.2.2 (by omega) (by omega)⟩)
        ⟨by simp; omega, q1, q2, q3, q4, qc, qk⟩ ?_ ?_ ?_
      · intro l pre x W hp hl hI
        gi_wp2
        refine ⟨KeepsFrom.refl _ _, KpBox.refl _ _, fun Wb ht _ => ?_⟩
        obtain ⟨h1_, h2_, h3_, h4_, h5_, h6_, h7_⟩ := hI
        have i1 := ht.boxed h2_ (by omega) (by omega)
        have i2 := ht.boxed h3_ (by omega) (by omega)
        have i3 := ht.boxed h4_ (by omega) (by omega)
        have i4 := ht.boxed h5_ (by omega) (by omega)
        have i5 : Car w Bz Wb := ⟨ht.boxed h6_.1 (by omega) (by omega), ht.below h6_.2 hbb (fun r hr => by omega) (by omega)⟩
        have i6 := ht.block h7_ (by omega) (by omega)
        clear h2_ h3_ h4_ h5_ h6_ h7_ ht
        have hlen : pre.length + 1 ≤ 31 := by have := hp.length_le; rw [List.length_append] at this; simp at this; omega
        have c3_ := i3.cell
        have c4_ := i4.cell
        have f4_ := i4.frozen
        have l4_ := i4.lt
        have FIN : ∀ W', W' = Wb.setCell ⟨m, 0, none⟩ (.int .i64 ((pre.length : Int) + 1)) → KeepsFrom W2.heap.size Wb W' ∧ KpBox (m + 1) Wb W' ∧ Boxed W' bv 9 (.string raw) ∧ Boxed W' (bv + 1) 3 (.int .i64 n) ∧ Boxed W' (bv + 2) 3 (.int .i64 c) ∧ Boxed W' m 3 (.int .i64 (((pre ++ [x]).length : Nat) : Int)) ∧ Car w Bz W' ∧ W'.heap[D]? = some (.deferred (some [])) := by
          rintro W' rfl
          refine ⟨(KeepsOthers.setCell _ _ _).from _, (KpBox.refl _ Wb).set _ (by simp) _, i1.other (by omega) _, i2.other (by omega) _, i3.other (by omega) _, ?_, ⟨i5.1.other (by omega) _, i5.2.setCell (p := ⟨m, 0, none⟩) (by simp; omega) _⟩, (Below.heap_setCell _ _ _ _ (by simp; omega)).trans i6⟩
          rw [show (((pre ++ [x]).length : Nat) : Int) = (pre.length : Int) + 1 by simp]
          exact i4.set _
        have FIN' := Aside0.mk FIN
        clear FIN i1 i2 i3 i4 i5 i6
        by_cases he : (pre.length : Int) + 1 = c
        · have e1 : ((pre.length : Int) + 1 == c) = true := by simpa using he
          have HE := Aside0.mk he
          clear he
          gi_wp2
          obtain ⟨g1, g2, g3⟩ := FIN'.out _ rfl
          exact ⟨g1, rfl, by simp; exact HE.out, g3⟩
        · have e1 : ((pre.length : Int) + 1 == c) = false := by simpa using he
          have HE := Aside0.mk he
          clear he
          gi_wp2
          obtain ⟨g1, g2, g3⟩ := FIN'.out _ rfl
          exact ⟨g1, g2, by have := HE.out; simp; omega, g3⟩
      all_goals
        first
          | (rintro D2 W5 hD2 ⟨h1_, h2_, h3_, h4_, h5_, h6_, h7_⟩ hK2
             obtain ⟨mm, hmm⟩ : ∃ mm : Int, ((wordsL raw).length : Int) = mm := ⟨_, rfl⟩
             rw [hmm] at h5_ h1_
             have hmin : min c (n : Int) = mm := by omega
             have FF := Aside0.mk (show Fin4 w Bz bv m D D2 raw n c mm W5 from ⟨h2_, h3_, h4_, h5_, h6_, h7_, hK2⟩)
             have MIN := Aside0.mk hmin
             clear h1_ h2_ h3_ h4_ h5_ h6_ h7_ hK2 hmm hmin)
          | (rintro D2 cd pre W5 hD2 hpre ⟨rfl, h1_, h2_, h3_, h4_, h5_, h6_, h7_⟩ hK2
             obtain ⟨mm, hmm⟩ : ∃ mm : Int, (pre.length : Int) = mm := ⟨_, rfl⟩
             rw [hmm] at h5_ h1_
             have hle := hpre.length_le
             have hmin : min c (n : Int) = mm := by omega
             have FF := Aside0.mk (show Fin4 w Bz bv m D D2 raw n c mm W5 from ⟨h2_, h3_, h4_, h5_, h6_, h7_, hK2⟩)
             have MIN := Aside0.mk hmin
             clear h1_ h2_ h3_ h4_ h5_ h6_ h7_ hK2 hmm hmin hpre hle
             refine wpIn_wide.2 ?_)
        clear HY q1 q2 q3 q4 qc qk
        have hmin := MIN.out
        have hn1 : 1 ≤ n := wf3
        go_wp2_with (first
          | (go_at_call 13; (with_reducible refine (rescape_call s _ (by omega)).mono ?_); rintro e wa ⟨p', rfl, hp', da⟩; obtain rfl : p' = p := bytes_inj (hp'.trans HP.out.symm); have FF := Aside0.mk (FF.out.step hbb da.below); clear da hp')
          | (go_at_call 10; (with_reducible refine (put_call y _ (YY.out (by trivial)).2).mono ?_); rintro e wb ⟨q, rfl, hq, bq⟩; obtain rfl : q = raw := bytes_inj (hq.trans (YY.out (by trivial)).1); have FF := Aside0.mk (FF.out.step hbb bq); clear bq hq)
          | (go_at_call 7; (with_reducible refine (WD.out _).mono ?_); rintro e wc ⟨rfl, dc⟩; have FF := Aside0.mk (FF.out.step hbb dc.below); clear dc)
          | (go_at_call 14; (with_reducible refine (RW.out _).mono ?_); rintro e wd_ ⟨rfl, dd⟩; have FF := Aside0.mk (FF.out.step hbb dd.below); obtain ⟨x1_, x2_, x3_, x4_, x5_, x6_⟩ := FF.out.cells; clear dd)
          | (go_at_call 3; (with_reducible refine (runs_walk _).mono ?_); rintro e wf ⟨rfl, bf⟩; have FF := Aside0.mk (FF.out.step hbb bf); have x5_ := FF.out.cells.2.2.2.2.1; have x6_ := FF.out.cells.2.2.2.2.2; clear bf))
        have dne : D < D2 := by omega
        obtain ⟨w1_, w2_, w3_, w4_, w5_, w6_, w7_⟩ := FF.out
        have e1 : (wf.setCell ⟨Bz, 0, none⟩ (.bool true)).heap[D2]? = some (.deferred (some [])) := (Below.heap_setCell _ _ _ _ (by simp; omega)).trans w7_
        have e2 : (wf.setCell ⟨Bz, 0, none⟩ (.bool true)).heap[D]? = some (.deferred (some [])) := (Below.heap_setCell _ _ _ _ (by simp; omega)).trans w6_
        have e3 : Boxed (wf.setCell ⟨Bz, 0, none⟩ (.bool true)) Bz 4 (.bool true) := Boxed.set _ w5_.1
        have e4 : Below Bz w (wf.setCell ⟨Bz, 0, none⟩ (.bool true)) := w5_.2.setCell (p := ⟨Bz, 0, none⟩) (Nat.le_refl _) _
        generalize wf.setCell ⟨Bz, 0, none⟩ (.bool true) = W9 at e1 e2 e3 e4 ⊢
        have e5 : (W9.putObj D2 (.deferred none)).heap[D]? = some (.deferred (some [])) := (World.putObj_heap_other (by omega)).trans e2
        have e6 := (e3.kept (grownBy_putObj' W9 D2 (.deferred none)) (by simp; omega))
        have e7 : Below Bz w (W9.putObj D2 (.deferred none)) := e4.grown (grownBy_putObj' W9 D2 (.deferred none)) (Nat.le_trans hbb e4.size) (fun k e => by cases e; omega)
        have e8 := (e6.kept (grownBy_putObj' (W9.putObj D2 (.deferred none)) D (.deferred none)) (by simp; omega)).cell
        refine ⟨by simp, .inl ⟨_, _, rfl, run_takeDeferred e1, by simp, .inl ⟨_, _, rfl, run_takeDeferred e5, .bool true, by simp [results, Try.f4, go_sem, e8], rfl, ?_⟩⟩⟩
        rw [HBW.out]
        exact e7.grown (grownBy_putObj' _ D (.deferred none)) (Nat.le_trans hbb e7.size) (fun k e => by cases e; omega)
end Go.Proofs.Ytkfjaijjkbadfaa.Given
