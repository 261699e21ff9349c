/- wire.files: may files be sent? -/
import Derived.Test.YtldbhkhblkgnnaaPFiles
import Derived.RangeFuncBox
import Derived.Lib.Builder
import Derived.IntWalk
import Derived.Outline
set_option linter.unusedVariables false
set_option linter.unusedSimpArgs false
namespace Go.Proofs.Ytldbhkhblkgnnaa.Given
open Go.RowKit Go.Proofs.YtldbhkhblkgnnaaW.PrintWords Go.Proofs.Ytldbhkhblkgnnaa.Q
theorem is_call (s : ByteArray) (w : World) (hs : s.size ≤ 1000000) : Calls Try.prog 39 #[.string s] w fun e w' => e = .returned (.bool (B.isN (bytesOf s))) ∧ Drawn0 w w' := by
  obtain ⟨k, hk⟩ := (B.is_ev s (by omega)).rounds
  exact hash_Is.calls k s _ w hk
theorem is_q (s : ByteArray) {b : Bool} (w : World) (n : Nat) (hs : s.size ≤ 1000000) (hb : B.isN (bytesOf s) = b) : Calls Try.prog 39 #[.string s] (w.drewN n) fun e w' => e = .returned (.bool b) ∧ ∃ m, w' = w.drewN m := by
  subst hb
  exact Calls.quiet_of ((is_call s (w.drewN n) hs).mono fun e w' h => ⟨h.1, h.2.out⟩)
theorem is_b (s : ByteArray) {b : Bool} (w : World) (hs : s.size ≤ 1000000) (hb : B.isN (bytesOf s) = b) : Calls Try.prog 39 #[.string s] w fun e w' => e = .returned (.bool b) ∧ ∃ m, w' = w.drewN m := is_q s w 0 hs hb
theorem t46_at {W : World} {A : Option Addr} {n : Nat} {l : List S46} (h : Kd.C k46 W A n l) (i : Nat) (hi : i < n) : ∃ ad, A = some ad ∧ W.cell? (ad.add (i * 4)) = some (.int .i64 (l.getD i z46).f0) ∧ W.cell? ⟨(ad.add (i * 4)).block, (ad.add (i * 4)).off + 1, none⟩ = some (.string (l.getD i z46).f1) ∧ W.cell? ⟨(ad.add (i * 4)).block, (ad.add (i * 4)).off + 2, none⟩ = some (.string (l.getD i z46).f2) ∧ W.cell? ⟨(ad.add (i * 4)).block, (ad.add (i * 4)).off + 3, none⟩ = some (.string (l.getD i z46).f3) := by
  obtain ⟨ad, e, h0, h1, h2, h3⟩ := at_T46 h (i : Int) (by omega) (by omega)
  rw [B.rdt_at, Int.toNat_natCast] at h0 h1 h2 h3
  exact ⟨ad, e, h0, h1, h2, h3⟩
set_option maxRecDepth 100000 in
set_option maxHeartbeats 1000000 in
theorem files_walk (A : Option Addr) (c : Nat) (l : List S46) (w : World) (hr : Kd.C k46 w A l.length l) (hc : l.length ≤ c) (hn : l.length ≤ 1000000) (hs : ∀ f ∈ l, f.f1.size ≤ 1000000 ∧ f.f2.size ≤ 1000000 ∧ f.f3.size ≤ 1000000) :
    Calls Try.prog 42 #[.slice A l.length c] w fun e w' => e = .returned (.bool (B.filesB l)) ∧ Below w.heap.size w w' := by
  have HR := Aside0.mk hr
  have HS := Aside0.mk hs
  clear hr hs
  have F0 : Aside0 (B.filesB l = (B.filesOk none (l.drop 0) && decide (l.length ≤ 3))) := ⟨rfl⟩
  go_enter Try.func42, Try.ntmps42
  go_wp2
  go_loopw [7] (fun v wr => ∃ (i : Nat) (p : Option S46), v = .int .i64 (i : Int) ∧ i ≤ l.length ∧ Aside0 (B.Pre l z46 i p) ∧ Aside0 (B.filesB l = (B.filesOk p (l.drop i) && decide (l.length ≤ 3))) ∧ Aside0 (Below w.heap.size w wr)) (fun v _ => l.length - (intOf v).toNat)
  case atStart => exact ⟨0, none, rfl, by omega, ⟨.inl ⟨rfl, rfl⟩⟩, F0, ⟨Below.refl _ _⟩⟩
  case round =>
    clear F0
    obtain ⟨i, p, rfl, hi, HP, HF, HB⟩ := hrel
    by_cases hlt : i < l.length
    · obtain ⟨ad, hA, g0, g1, g2, g3⟩ := t46_at (Kd.C_below HR.out HB.out) i hlt
      subst hA
      have HC := Aside0.mk (Kd.C_below HR.out HB.out)
      have hmem : l.getD i z46 ∈ l := by rw [List.getD_eq_getElem?_getD, List.getElem?_eq_getElem hlt]; exact List.getElem_mem hlt
      obtain ⟨s1, s2, s3⟩ := HS.out _ hmem
      have hdr : l.drop i = l.getD i z46 :: l.drop (i + 1) := by rw [List.drop_eq_getElem_cons hlt, List.getD_eq_getElem?_getD, List.getElem?_eq_getElem hlt]; rfl
      have hF := HF.out
      rw [hdr] at hF
      have HN := Aside0.mk (B.Pre.next (l := l) (d := z46) (i := i) (s := l.getD i z46) rfl)
      clear hmem hdr HF
      generalize l.getD i z46 = f at g0 g1 g2 g3 s1 s2 s3 hF HN
      obtain ⟨f0, f1, f2, f3⟩ := f
      unfold B.filesOk B.fileA at hF
      dsimp only at g0 g1 g2 g3 s1 s2 s3 hF
      have HF := Aside0.mk hF
      clear hF
      have XF := World.alloc_heap_new wr (.cells #[.int .i64 f0, .string f1, .string f2, .string f3] 46)
      have BF := Aside0.mk (HB.out.alloc HB.out.size (.cells #[.int .i64 f0, .string f1, .string f2, .string f3] 46))
      have AL := (Below.refl wr.heap.size wr).alloc (Nat.le_refl _) (.cells #[.int .i64 f0, .string f1, .string f2, .string f3] 46)
      obtain ⟨h, hh⟩ : ∃ h, wr.heap.size = h := ⟨_, rfl⟩
      -- the one ahead
      have hpre : (i = 0 ∧ p = none) ∨ ∃ (j : Nat) (y : S46), i = j + 1 ∧ p = some y ∧ (wr.alloc (.cells #[.int .i64 f0, .string f1, .string f2, .string f3] 46)).cell? ⟨(ad.add (j * 4)).block, (ad.add (j * 4)).off + 1, none⟩ = some (.string y.f1) := by
        rcases HP.out with ⟨h1, h2⟩ | ⟨h1, h2⟩
        · exact .inl ⟨h1, h2⟩
        · obtain ⟨j, rfl⟩ : ∃ j, i = j + 1 := ⟨i - 1, by omega⟩
          obtain ⟨ad', he, _, c1, _, _⟩ := t46_at HC.out j (by omega)
          cases he
          exact .inr ⟨j, _, rfl, h2, pw_cell_below AL c1⟩
      clear AL HP
      rw [hh] at XF
      clear HC
      have hk : f0 < 1 ∨ (¬ f0 < 1 ∧ 1 ≤ f0 ∧ 3 < f0) ∨ (¬ f0 < 1 ∧ ¬ 3 < f0 ∧ 1 ≤ f0 ∧ f0 ≤ 3 ∧ (600 : Int) < (f3.size : Int)) ∨ (¬ f0 < 1 ∧ ¬ 3 < f0 ∧ ¬ (600 : Int) < (f3.size : Int) ∧ 1 ≤ f0 ∧ f0 ≤ 3 ∧ f3.size ≤ 600) := by omega
      have sz3 : (f3.size : Int) ≤ 1000000 := by omega
      rcases hpre with ⟨rfl, rfl⟩ | ⟨j, y, rfl, rfl, pc⟩
      · replace g0 : wr.cell? ad = some (.int .i64 f0) := g0
        replace g1 : wr.cell? ⟨ad.block, ad.off + 1, none⟩ = some (.string f1) := g1
        replace g2 : wr.cell? ⟨ad.block, ad.off + 2, none⟩ = some (.string f2) := g2
        replace g3 : wr.cell? ⟨ad.block, ad.off + 3, none⟩ = some (.string f3) := g3
        go_wp2
        clear g0 g1 g2 g3 hh
        generalize wr.alloc (.cells #[.int .i64 f0, .string f1, .string f2, .string f3] 46) = wf at *
        have e0 : wf.cell? ⟨h, 0, none⟩ = some (.int .i64 f0) := (Lib.cell_of_heap XF 0).trans rfl
        have e1 : wf.cell? ⟨h, 1, none⟩ = some (.string f1) := (Lib.cell_of_heap XF 1).trans rfl
        have e2 : wf.cell? ⟨h, 2, none⟩ = some (.string f2) := (Lib.cell_of_heap XF 2).trans rfl
        have e3 : wf.cell? ⟨h, 3, none⟩ = some (.string f3) := (Lib.cell_of_heap XF 3).trans rfl
        clear XF
        cases hb : B.isN (bytesOf f1) with
        | false =>
          have HV : Aside0 (B.filesB l = false) := ⟨by rw [HF.out, hb]; rfl⟩
          clear HF
          go_quiet ((go_at_call 39; exact is_q f1 _ _ s1 hb))
          go_wp2
          go_ret
          rw [HV.out]
          exact ⟨rfl, pw_below_drewN BF.out nq⟩
        | true =>
          rcases hk with k1 | ⟨n1, k1, k2⟩ | ⟨n1, n2, k1, k2, k3⟩ | ⟨n1, n2, n3, k1, k2, k3⟩
          · have q1 : decide (f0 < 1) = true := decide_eq_true k1
            have HV : Aside0 (B.filesB l = false) := ⟨B.f_bad (a := ⟨f0, f1, f2, f3⟩) HF.out (by show ¬ (1 ≤ f0 ∧ f0 ≤ 3 ∧ f3.size ≤ 600); omega)⟩
            clear HF
            go_quiet ((go_at_call 39; exact is_q f1 _ _ s1 hb))
            go_wp2
            go_ret
            rw [HV.out]
            exact ⟨rfl, pw_below_drewN BF.out nq⟩
          · have q1 : decide (f0 < 1) = false := decide_eq_false (by omega)
            have q2 : decide (3 < f0) = true := decide_eq_true k2
            have HV : Aside0 (B.filesB l = false) := ⟨B.f_bad (a := ⟨f0, f1, f2, f3⟩) HF.out (by show ¬ (1 ≤ f0 ∧ f0 ≤ 3 ∧ f3.size ≤ 600); omega)⟩
            clear HF
            go_quiet ((go_at_call 39; exact is_q f1 _ _ s1 hb))
            go_wp2
            go_ret
            rw [HV.out]
            exact ⟨rfl, pw_below_drewN BF.out nq⟩
          · have q1 : decide (f0 < 1) = false := decide_eq_false (by omega)
            have q2 : decide (3 < f0) = false := decide_eq_false (by omega)
            have q3 : decide ((600 : Int) < (f3.size : Int)) = true := decide_eq_true k3
            have HV : Aside0 (B.filesB l = false) := ⟨B.f_bad (a := ⟨f0, f1, f2, f3⟩) HF.out (by show ¬ (1 ≤ f0 ∧ f0 ≤ 3 ∧ f3.size ≤ 600); omega)⟩
            clear HF
            go_quiet ((go_at_call 39; exact is_q f1 _ _ s1 hb))
            go_wp2
            go_ret
            rw [HV.out]
            exact ⟨rfl, pw_below_drewN BF.out nq⟩
          · have q1 : decide (f0 < 1) = false := decide_eq_false (by omega)
            have q2 : decide (3 < f0) = false := decide_eq_false (by omega)
            have q3 : decide ((600 : Int) < (f3.size : Int)) = false := decide_eq_false (by omega)
            have HG := Aside0.mk (B.f_next (a := ⟨f0, f1, f2, f3⟩) HF.out hb rfl k1 k2 k3)
            clear HF n1 n2 n3
            by_cases k4 : f0 = 2
            · subst k4
              cases hb2 : B.isN (bytesOf f2) with
              | false =>
                have HV : Aside0 (B.filesB l = false) := ⟨by rw [HG.out]; unfold B.fileC; rw [if_pos rfl]; dsimp only; rw [hb2]; rfl⟩
                clear HG
                go_quiet ((go_at_call 39; exact is_q f1 _ _ s1 hb))
                go_wp2_with (go_at_call 39; (with_reducible refine (is_b f2 _ s2 hb2).mono ?_); rintro e w1 ⟨rfl, m, rfl⟩)
                go_ret
                rw [HV.out]
                exact ⟨rfl, pw_below_drewN BF.out (nq + m)⟩
              | true =>
                have HV := Aside0.mk (B.f_go HG.out (by unfold B.fileC; rw [if_pos rfl]; exact hb2))
                clear HG
                go_quiet ((go_at_call 39; exact is_q f1 _ _ s1 hb))
                go_wp2_with (go_at_call 39; (with_reducible refine (is_b f2 _ s2 hb2).mono ?_); rintro e w1 ⟨rfl, m, rfl⟩)
                exact ⟨⟨1, some ⟨2, f1, f2, f3⟩, (by first | rfl | exact congrArg (Value.int .i64) (by omega)), by omega, HN, HV, ⟨pw_below_drewN BF.out (nq + m)⟩⟩, by simp only [intOf]; omega⟩
            · have q4 : (f0 == 2) = false := beq_false_of_ne k4
              have q5 : (f0 != 2) = true := by rw [bne, q4]; rfl
              have q6 : decide (f0 = 2) = false := decide_eq_false k4
              by_cases k5 : f2.size = 0
              · have q7 : f2.toList.isEmpty = true := by rw [B.toList_size.2 k5]; rfl
                have HV := Aside0.mk (B.f_go HG.out (by unfold B.fileC; rw [if_neg k4]; exact decide_eq_true k5))
                clear HG
                go_quiet ((go_at_call 39; exact is_q f1 _ _ s1 hb))
                go_wp2
                exact ⟨⟨1, some ⟨f0, f1, f2, f3⟩, (by first | rfl | exact congrArg (Value.int .i64) (by omega)), by omega, HN, HV, ⟨pw_below_drewN BF.out nq⟩⟩, by simp only [intOf]; omega⟩
              · have q7 : f2.toList.isEmpty = false := by cases hh : f2.toList with | nil => exact absurd (B.toList_size.1 hh) k5 | cons _ _ => rfl
                have HV : Aside0 (B.filesB l = false) := ⟨by rw [HG.out]; unfold B.fileC; rw [if_neg k4]; dsimp only; rw [decide_eq_false k5]; rfl⟩
                clear HG
                go_quiet ((go_at_call 39; exact is_q f1 _ _ s1 hb))
                go_wp2
                go_ret
                rw [HV.out]
                exact ⟨rfl, pw_below_drewN BF.out nq⟩
      · have wj : IntKind.i64.wrap (((j + 1 : Nat) : Int) - 1) = (j : Int) := by rw [IntWalk.i64_in _ (by omega)]; omega
        go_wp2
        clear g0 g1 g2 g3 hh
        generalize wr.alloc (.cells #[.int .i64 f0, .string f1, .string f2, .string f3] 46) = wf at *
        have e0 : wf.cell? ⟨h, 0, none⟩ = some (.int .i64 f0) := (Lib.cell_of_heap XF 0).trans rfl
        have e1 : wf.cell? ⟨h, 1, none⟩ = some (.string f1) := (Lib.cell_of_heap XF 1).trans rfl
        have e2 : wf.cell? ⟨h, 2, none⟩ = some (.string f2) := (Lib.cell_of_heap XF 2).trans rfl
        have e3 : wf.cell? ⟨h, 3, none⟩ = some (.string f3) := (Lib.cell_of_heap XF 3).trans rfl
        clear XF
        cases hb : B.isN (bytesOf f1) with
        | false =>
          have HV : Aside0 (B.filesB l = false) := ⟨by rw [HF.out, hb]; rfl⟩
          clear HF
          go_quiet ((go_at_call 39; exact is_q f1 _ _ s1 hb))
          go_wp2
          go_ret
          rw [HV.out]
          exact ⟨rfl, pw_below_drewN BF.out nq⟩
        | true =>
          cases ho : Op.bytesLess y.f1.toList f1.toList with
          | false =>
            have HV : Aside0 (B.filesB l = false) := ⟨B.f_ord (a := ⟨f0, f1, f2, f3⟩) HF.out ho⟩
            clear HF
            go_quiet ((go_at_call 39; exact is_q f1 _ _ s1 hb))
            go_wp2
            go_ret
            rw [HV.out]
            exact ⟨rfl, pw_below_drewN BF.out nq⟩
          | true =>
            rcases hk with k1 | ⟨n1, k1, k2⟩ | ⟨n1, n2, k1, k2, k3⟩ | ⟨n1, n2, n3, k1, k2, k3⟩
            · have q1 : decide (f0 < 1) = true := decide_eq_true k1
              have HV : Aside0 (B.filesB l = false) := ⟨B.f_bad (a := ⟨f0, f1, f2, f3⟩) HF.out (by show ¬ (1 ≤ f0 ∧ f0 ≤ 3 ∧ f3.size ≤ 600); omega)⟩
              clear HF
              go_quiet ((go_at_call 39; exact is_q f1 _ _ s1 hb))
              go_wp2
              go_ret
              rw [HV.out]
              exact ⟨rfl, pw_below_drewN BF.out nq⟩
            · have q1 : decide (f0 < 1) = false := decide_eq_false (by omega)
              have q2 : decide (3 < f0) = true := decide_eq_true k2
              have HV : Aside0 (B.filesB l = false) := ⟨B.f_bad (a := ⟨f0, f1, f2, f3⟩) HF.out (by show ¬ (1 ≤ f0 ∧ f0 ≤ 3 ∧ f3.size ≤ 600); omega)⟩
              clear HF
              go_quiet ((go_at_call 39; exact is_q f1 _ _ s1 hb))
              go_wp2
              go_ret
              rw [HV.out]
              exact ⟨rfl, pw_below_drewN BF.out nq⟩
            · have q1 : decide (f0 < 1) = false := decide_eq_false (by omega)
              have q2 : decide (3 < f0) = false := decide_eq_false (by omega)
              have q3 : decide ((600 : Int) < (f3.size : Int)) = true := decide_eq_true k3
              have HV : Aside0 (B.filesB l = false) := ⟨B.f_bad (a := ⟨f0, f1, f2, f3⟩) HF.out (by show ¬ (1 ≤ f0 ∧ f0 ≤ 3 ∧ f3.size ≤ 600); omega)⟩
              clear HF
              go_quiet ((go_at_call 39; exact is_q f1 _ _ s1 hb))
              go_wp2
              go_ret
              rw [HV.out]
              exact ⟨rfl, pw_below_drewN BF.out nq⟩
            · have q1 : decide (f0 < 1) = false := decide_eq_false (by omega)
              have q2 : decide (3 < f0) = false := decide_eq_false (by omega)
              have q3 : decide ((600 : Int) < (f3.size : Int)) = false := decide_eq_false (by omega)
              have HG := Aside0.mk (B.f_next (a := ⟨f0, f1, f2, f3⟩) HF.out hb ho k1 k2 k3)
              clear HF n1 n2 n3
              by_cases k4 : f0 = 2
              · subst k4
                cases hb2 : B.isN (bytesOf f2) with
                | false =>
                  have HV : Aside0 (B.filesB l = false) := ⟨by rw [HG.out]; unfold B.fileC; rw [if_pos rfl]; dsimp only; rw [hb2]; rfl⟩
                  clear HG
                  go_quiet ((go_at_call 39; exact is_q f1 _ _ s1 hb))
                  go_wp2_with (go_at_call 39; (with_reducible refine (is_b f2 _ s2 hb2).mono ?_); rintro e w1 ⟨rfl, m, rfl⟩)
                  go_ret
                  rw [HV.out]
                  exact ⟨rfl, pw_below_drewN BF.out (nq + m)⟩
                | true =>
                  have HV := Aside0.mk (B.f_go HG.out (by unfold B.fileC; rw [if_pos rfl]; exact hb2))
                  clear HG
                  go_quiet ((go_at_call 39; exact is_q f1 _ _ s1 hb))
                  go_wp2_with (go_at_call 39; (with_reducible refine (is_b f2 _ s2 hb2).mono ?_); rintro e w1 ⟨rfl, m, rfl⟩)
                  exact ⟨⟨j + 2, some ⟨2, f1, f2, f3⟩, (by first | rfl | exact congrArg (Value.int .i64) (by omega)), by omega, HN, HV, ⟨pw_below_drewN BF.out (nq + m)⟩⟩, by simp only [intOf]; omega⟩
              · have q4 : (f0 == 2) = false := beq_false_of_ne k4
                have q5 : (f0 != 2) = true := by rw [bne, q4]; rfl
                have q6 : decide (f0 = 2) = false := decide_eq_false k4
                by_cases k5 : f2.size = 0
                · have q7 : f2.toList.isEmpty = true := by rw [B.toList_size.2 k5]; rfl
                  have HV := Aside0.mk (B.f_go HG.out (by unfold B.fileC; rw [if_neg k4]; exact decide_eq_true k5))
                  clear HG
                  go_quiet ((go_at_call 39; exact is_q f1 _ _ s1 hb))
                  go_wp2
                  exact ⟨⟨j + 2, some ⟨f0, f1, f2, f3⟩, (by first | rfl | exact congrArg (Value.int .i64) (by omega)), by omega, HN, HV, ⟨pw_below_drewN BF.out nq⟩⟩, by simp only [intOf]; omega⟩
                · have q7 : f2.toList.isEmpty = false := by cases hh : f2.toList with | nil => exact absurd (B.toList_size.1 hh) k5 | cons _ _ => rfl
                  have HV : Aside0 (B.filesB l = false) := ⟨by rw [HG.out]; unfold B.fileC; rw [if_neg k4]; dsimp only; rw [decide_eq_false k5]; rfl⟩
                  clear HG
                  go_quiet ((go_at_call 39; exact is_q f1 _ _ s1 hb))
                  go_wp2
                  go_ret
                  rw [HV.out]
                  exact ⟨rfl, pw_below_drewN BF.out nq⟩
    · obtain rfl : i = l.length := by omega
      have hF := HF.out
      rw [List.drop_length, B.filesOk, Bool.true_and] at hF
      have HF := Aside0.mk hF
      clear hF
      have HV : Aside0 (B.filesB l = decide ((l.length : Int) ≤ 3)) := ⟨by rw [HF.out]; by_cases h3 : l.length ≤ 3 <;> simp [h3] <;> omega⟩
      clear HF
      go_wp2
      go_ret
      rw [HV.out]
      exact ⟨rfl, HB.out⟩
end Go.Proofs.Ytldbhkhblkgnnaa.Given
