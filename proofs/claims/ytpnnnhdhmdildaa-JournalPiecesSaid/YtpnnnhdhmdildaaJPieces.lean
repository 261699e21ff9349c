/- Pieces join to the text; all are sectors; just the last one says so. For every input. No condition. -/
import Derived.Test.YtpnnnhdhmdildaaJText
import Derived.Test.YtpnnnhdhmdildaaJRuns
import Derived.Test.YtpnnnhdhmdildaaPJour5
set_option linter.unusedVariables false
set_option linter.unusedSimpArgs false
namespace Go.Proofs.Ytpnnnhdhmdildaa.Given
open Go.RowKit Go.Proofs.YtpnnnhdhmdildaaW.PrintWords Go.Proofs.Ytpnnnhdhmdildaa.J Go.Proofs.Ytpnnnhdhmdildaa.RF
set_option maxRecDepth 100000 in
set_option maxHeartbeats 2000000 in
theorem pieces_walk (n c : Int) (w : World) (hn : (Lit.int .i64 n).wf = true) (hc : (Lit.int .u8 c).wf = true) : Calls Try.prog 4 #[.int .i64 n, .int .u8 c] w fun e w' => e = .returned (.bool true) ∧ Below w.heap.size w w' := by
  clear hn hc
  go_enter Try.func4, Try.ntmps4
  go_wp2_with (first
    | (go_at_call 17; (with_reducible refine (text_call _ _ _ _ _ _).mono ?_); rintro e w1 ⟨s, rfl, hs, hb⟩; have HB := Aside0.mk hb; clear hb)
    | (go_at_call 16; (with_reducible refine (pieces_l s _ (by omega)).mono ?_); rintro e w2 ⟨a1, cap1, rfl, h⟩; have HP := Aside0.mk h; clear h))
  have h1 := np_pos s
  have h2 := np_eq s.size s (Nat.le_refl _)
  have hps := Aside0.mk (pieces_size s.size s (Nat.le_refl _))
  have hmk := Aside0.mk (pieces_mk s.size s (Nat.le_refl _))
  have hhd := Aside0.mk (pieces_hd s.size s (Nat.le_refl _))
  have hjn := Aside0.mk (join_pieces s)
  obtain ⟨m, hm⟩ : ∃ m, np s = m := ⟨_, rfl⟩
  have hlen := Aside0.mk (show (piecesL s).length = m from hm)
  rw [hm] at h1 h2 HP ⊢
  obtain ⟨g1, hg1⟩ : ∃ g1, a1 = some ⟨g1, 0, none⟩ := by
    rcases HP.out.row.2 with ⟨hv, hn0⟩ | ⟨g1, cap, cur, hv, _⟩
    · exact absurd (hlen.out.symm.trans hn0) (by omega)
    · cases hv; exact ⟨g1, rfl⟩
  subst hg1
  clear hm
  have H2 := Aside0.mk h2
  have h5 : m ≤ 5 := by omega
  clear h2
  have hrow := Aside0.mk (PRow.mk HP.out.row HP.out.below.size)
  have hbel := Aside0.mk (HB.out.trans (HP.out.below.mono HB.out.size))
  clear HB HP
  generalize piecesL s = ps at hps hmk hhd hjn hlen hrow
  go_loop [7, 18] (fun v7 v18 => ∃ i : Nat, i ≤ m ∧ v18 = .int .i64 (i : Int) ∧ ∃ t : ByteArray, v7 = .string t ∧ Aside0 (t = joinT (ps.take i)) ∧ t.size ≤ 30 * i) (fun _ v18 => m - (intOf v18).toNat)
  case atStart => exact ⟨0, by omega, rfl, ⟨#[]⟩, rfl, ⟨rfl⟩, by simp [ByteArray.size]⟩
  case round =>
    obtain ⟨i, hi, rfl, t, rfl, HT, ht⟩ := hrel
    by_cases hlt : i < m
    · have hil : i < ps.length := by rw [hlen.out]; exact hlt
      have hcx := hrow.out.cell hil
      have k1 := getD_size hps.out hil
      have k2 := hmk.out i hil
      have k3 := (hhd.out i hil).1
      have k4 := (hhd.out i hil).2
      have kj := Aside0.mk (join_next ps i hil)
      rw [hlen.out] at k2 k4
      generalize ps.getD i ⟨#[]⟩ = x at hcx k1 k2 k3 k4 kj
      have i0 : ((x[0]'(by omega)).toNat : Int) = (hd x : Int) := by rw [hd_at x (by omega)]
      have i31 : ((x[31]'(by omega)).toNat : Int) = (mk x : Int) := by rw [mk_at x (by omega)]
      obtain ⟨h, hh⟩ : ∃ h, hd x = h := ⟨_, rfl⟩
      obtain ⟨z, hz⟩ : ∃ z, J.mk x = z := ⟨_, rfl⟩
      rw [hh] at i0 k3 k4 kj
      rw [hz] at i31 k2
      have hx1 : (x.extract 1 (1 + h)).size = h := by rw [ByteArray.size_extract]; omega
      have q1 : decide ((30 : Int) < (h : Int)) = false := decide_eq_false (by omega)
      have tn : ((1 : Int) + (h : Int)).toNat = 1 + h := by omega
      have u1 : (1 : Int) ≤ (1 : Int) + (h : Int) := by omega
      have u2 : (1 : Int) + (h : Int) ≤ 32 := by omega
      have u3 : t.size + h ≤ 9223372036854775807 := by omega
      have KJ : Aside0 (t ++ x.extract 1 (1 + h) = joinT (ps.take (i + 1))) := ⟨by rw [kj.out, HT.out]⟩
      have hts : (t ++ x.extract 1 (1 + h)).size ≤ 30 * (i + 1) := by rw [ByteArray.size_append, hx1]; omega
      clear hh hz kj HT
      by_cases hl : i + 1 = m
      · rw [if_pos hl] at k2
        subst k2
        subst hl
        clear k4
        go_wp2
        go_round
        case rel => exact ⟨i + 1, by omega, by go_num, _, rfl, KJ, hts⟩
        case measure => simp [intOf]
      · rw [if_neg hl] at k2
        subst k2
        obtain rfl : h = 30 := k4 (by omega)
        have q2 : ((i : Int) == (m : Int) - 1) = false := beq_eq_false_iff_ne.2 (by omega)
        have q3 : decide ((i : Int) < (m : Int) - 1) = true := decide_eq_true (by omega)
        clear k4
        go_wp2
        go_round
        case rel => exact ⟨i + 1, by omega, by go_num, _, rfl, KJ, hts⟩
        case measure => simp [intOf]; omega
    · obtain rfl : i = m := by omega
      have e1 : t = s := by rw [HT.out, List.take_of_length_le (by rw [hlen.out]; exact Nat.le_refl _)]; exact hjn.out
      subst e1
      have h2 := H2.out
      have q4 : ((i : Int) == max (((t.size : Int) + 32 - 3) / 30) 1) = true := beq_iff_eq.2 (by omega)
      clear hjn HT h2
      go_wp2_with (go_at_call 3; (with_reducible refine (runs_walk _).mono ?_); rintro e w3 ⟨rfl, hb⟩; have HB3 := Aside0.mk hb; clear hb)
      go_ret
      exact ⟨rfl, hbel.out.trans (HB3.out.mono hbel.out.size)⟩
end Go.Proofs.Ytpnnnhdhmdildaa.Given
