-- Written by a program of this session (wip/tools/ap.py) for this claim.
import Derived.Test.YtcjkichimndioabQx0
import Derived.Test.YtcjkichimndioabQx1
import Derived.Test.YtcjkichimndioabQx3
namespace Go.Proofs.Ytcjkichimndioab.Q
open Go.Proofs.Ytcjkichimndioab.Given
open Go.RowKit Go.Proofs.Ytcjkichimndioab.PW Go.Proofs.YtcjkichimndioabW.PrintWords Go.Proofs.YtcjkichimndioabW.PrintLast Go.Proofs.YtcjkichimndioabW.PrintMore
attribute [local go_sem] max2_int min2_int max_two min_two max_three min_three max_four min_four   -- for this text's walks alone
set_option linter.unnecessarySimpa false
attribute [local go_sem high] run_cut_if run_cut_from run_cut_to run_cat_if
set_option linter.unusedVariables false
set_option linter.unusedSimpArgs false

/-! ### ammonitelaw3_DeltaParts: function 8 -/
mutual
def ammonitelaw3_DeltaParts.l0 : Nat → List Int → Int → ByteArray → ByteArray → ByteArray → Int → Option (Bool)
  | 0, _, _, _, _, _, _ => none
  | k + 1, x1, x2, x7, x8, x9, x10 => if x10 < (x1.length : Int) then (ammonitelaw3_DeltaParts.j1 k x1 x2 x7 x8 x9 x10 (decide (x10 < 6))) else (ammonitelaw3_DeltaParts.j1 k x1 x2 x7 x8 x9 x10 false)
def ammonitelaw3_DeltaParts.j1 : Nat → List Int → Int → ByteArray → ByteArray → ByteArray → Int → Bool → Option (Bool)
  | 0, _, _, _, _, _, _, _ => none
  | k + 1, x1, x2, x7, x8, x9, x10, x32 => if x32 = true then (if 0 ≤ x10 then (if x10 < (x1.length : Int) then ((ammonitebook_Within.f (rd x1 x10) 1 20).bind fun t187 => ((ammonitebook_Within.f (wrap64 (Int.tdiv (rd x1 x10) 20)) 0 (wrap64 ((x7.size : Int) - t187))).bind fun t189 => (if (Go.bits .and .i64 (rd x1 x10) 1) = 1 then ((some (([x2, (x10) % 256, 59, 64] : List Int) : List Int)).bind fun y191 => (if x8.size + (strOfNums y191).size ≤ 9223372036854775807 then (if x9.size + 2 ≤ 9223372036854775807 then (if (catS x9 (⟨#[52, 58]⟩ : ByteArray)).size + (strOfNums y191).size ≤ 9223372036854775807 then (ammonitelaw3_DeltaParts.l0 k x1 x2 x7 (catS x8 (strOfNums y191)) (catS (catS x9 (⟨#[52, 58]⟩ : ByteArray)) (strOfNums y191)) (wrap64 (x10 + 1))) else (none)) else (none)) else (none))) else (if 0 ≤ t189 then (if t189 ≤ (wrap64 (t189 + t187)) then (if (wrap64 (t189 + t187)) ≤ (x7.size : Int) then (if x8.size + (cutS x7 (t189 : Int).toNat ((wrap64 (t189 + t187)) : Int).toNat).size ≤ 9223372036854775807 then ((digit_Put.f k t187).bind fun t194 => (if x9.size + t194.size ≤ 9223372036854775807 then (if (catS x9 t194).size + 1 ≤ 9223372036854775807 then ((digit_Put.f k t189).bind fun t195 => (if (catS (catS x9 t194) (⟨#[64]⟩ : ByteArray)).size + t195.size ≤ 9223372036854775807 then (if (catS (catS (catS x9 t194) (⟨#[64]⟩ : ByteArray)) t195).size + 1 ≤ 9223372036854775807 then (ammonitelaw3_DeltaParts.l0 k x1 x2 x7 (catS x8 (cutS x7 (t189 : Int).toNat ((wrap64 (t189 + t187)) : Int).toNat)) (catS (catS (catS (catS x9 t194) (⟨#[64]⟩ : ByteArray)) t195) (⟨#[44]⟩ : ByteArray)) (wrap64 (x10 + 1))) else (none)) else (none))) else (none)) else (none))) else (none)) else (none)) else (none)) else (none))))) else (none)) else (none)) else ((digit_Put.f k (x8.size : Int)).bind fun t196 => (if t196.size + 1 ≤ 9223372036854775807 then (if (catS t196 (⟨#[10]⟩ : ByteArray)).size + x9.size ≤ 9223372036854775807 then ((delta_Check.f k x8).bind fun t197 => ((digit_Put.f k t197).bind fun t198 => (if (catS (catS t196 (⟨#[10]⟩ : ByteArray)) x9).size + t198.size ≤ 9223372036854775807 then (if (catS (catS (catS t196 (⟨#[10]⟩ : ByteArray)) x9) t198).size + 1 ≤ 9223372036854775807 then ((delta_Apply.f k x7 (catS (catS (catS (catS t196 (⟨#[10]⟩ : ByteArray)) x9) t198) (⟨#[59]⟩ : ByteArray))).bind fun bt199 => (if x7.size + 14 ≤ 9223372036854775807 then ((delta_Apply.f k (catS x7 (⟨#[109, 111, 114, 101, 32, 98, 101, 104, 105, 110, 100, 32, 105, 116]⟩ : ByteArray)) (catS (catS (catS (catS t196 (⟨#[10]⟩ : ByteArray)) x9) t198) (⟨#[59]⟩ : ByteArray))).bind fun bt201 => (if (catS (catS (catS (catS t196 (⟨#[10]⟩ : ByteArray)) x9) t198) (⟨#[59]⟩ : ByteArray)).size + 1 ≤ 9223372036854775807 then ((delta_Apply.f k x7 (catS (catS (catS (catS (catS t196 (⟨#[10]⟩ : ByteArray)) x9) t198) (⟨#[59]⟩ : ByteArray)) (⟨#[59]⟩ : ByteArray))).bind fun bt203 => (if 1 + (catS (catS (catS (catS t196 (⟨#[10]⟩ : ByteArray)) x9) t198) (⟨#[59]⟩ : ByteArray)).size ≤ 9223372036854775807 then ((delta_Apply.f k x7 (catS (⟨#[49]⟩ : ByteArray) (catS (catS (catS (catS t196 (⟨#[10]⟩ : ByteArray)) x9) t198) (⟨#[59]⟩ : ByteArray)))).bind fun bt205 => (if bt199.2 = true then (if bt199.1.toList = x8.toList then (if bt201.2 = true then (if bt201.1.toList = x8.toList then (if bt203.2 = true then (some false) else (if bt205.2 = true then (some false) else ((ammonitelaw3_DeltaRuns.f k).bind fun t207 => (some t207)))) else (some false)) else (some false)) else (some false)) else (some false))) else (none))) else (none))) else (none))) else (none)) else (none)))) else (none)) else (none)))
end
def ammonitelaw3_DeltaParts.f (k : Nat) (a0_0 : Int) (l0_1 : List Int) (l1 : List Int) (a2 : Int) : Option (Bool) := (ammonitekeep_Text_Text.f k a0_0 l0_1).bind fun t185 => (if t185.size + 21 ≤ 9223372036854775807 then (ammonitelaw3_DeltaParts.l0 k l1 a2 (catS t185 (⟨#[115, 111, 109, 101, 32, 98, 121, 116, 101, 115, 32, 97, 116, 32, 116, 104, 101, 32, 101, 110, 100]⟩ : ByteArray)) (⟨#[]⟩ : ByteArray) (⟨#[]⟩ : ByteArray) 0) else (none))
theorem ammonitelaw3_DeltaParts.mono_l : ∀ k, (∀ y0 y1 y2 y3 y4 y5, LeO (ammonitelaw3_DeltaParts.l0 k y0 y1 y2 y3 y4 y5) (ammonitelaw3_DeltaParts.l0 (k + 1) y0 y1 y2 y3 y4 y5)) ∧ (∀ y0 y1 y2 y3 y4 y5 y6, LeO (ammonitelaw3_DeltaParts.j1 k y0 y1 y2 y3 y4 y5 y6) (ammonitelaw3_DeltaParts.j1 (k + 1) y0 y1 y2 y3 y4 y5 y6))
  | 0 => ⟨fun _ _ _ _ _ _ r h => by simp [ammonitelaw3_DeltaParts.l0] at h, fun _ _ _ _ _ _ _ r h => by simp [ammonitelaw3_DeltaParts.j1] at h⟩
  | k + 1 => by
    obtain ⟨ih0, ih1⟩ := ammonitelaw3_DeltaParts.mono_l k
    refine ⟨?_, ?_⟩
    · intro y0 y1 y2 y3 y4 y5
      unfold ammonitelaw3_DeltaParts.l0
      repeat' first
      | (with_reducible exact ih0 _ _ _ _ _ _)
      | (with_reducible exact ih1 _ _ _ _ _ _ _)
      | (with_reducible exact ammonitekeep_Text_Text.mono _ _ _)
      | (with_reducible exact ammonitelaw3_DeltaRuns.mono _)
      | (with_reducible exact delta_Apply.mono _ _ _)
      | (with_reducible exact delta_Check.mono _ _)
      | (with_reducible exact digit_Put.mono _ _)
      | (with_reducible exact LeO.refl _)
      | (with_reducible exact LeO.none _)
      | (with_reducible refine LeO.ite ?_ ?_)
      | (with_reducible refine LeO.bind ?_ (fun _ => ?_))
      | exact ih0 _ _ _ _ _ _
      | exact ih1 _ _ _ _ _ _ _
      | exact ammonitekeep_Text_Text.mono _ _ _
      | exact ammonitelaw3_DeltaRuns.mono _
      | exact delta_Apply.mono _ _ _
      | exact delta_Check.mono _ _
      | exact digit_Put.mono _ _
      | exact LeO.none _
      | refine LeO.ite ?_ ?_
      | refine LeO.bind ?_ (fun _ => ?_)
    · intro y0 y1 y2 y3 y4 y5 y6
      unfold ammonitelaw3_DeltaParts.j1
      repeat' first
      | (with_reducible exact ih0 _ _ _ _ _ _)
      | (with_reducible exact ih1 _ _ _ _ _ _ _)
      | (with_reducible exact ammonitekeep_Text_Text.mono _ _ _)
      | (with_reducible exact ammonitelaw3_DeltaRuns.mono _)
      | (with_reducible exact delta_Apply.mono _ _ _)
      | (with_reducible exact delta_Check.mono _ _)
      | (with_reducible exact digit_Put.mono _ _)
      | (with_reducible exact LeO.refl _)
      | (with_reducible exact LeO.none _)
      | (with_reducible refine LeO.ite ?_ ?_)
      | (with_reducible refine LeO.bind ?_ (fun _ => ?_))
      | exact ih0 _ _ _ _ _ _
      | exact ih1 _ _ _ _ _ _ _
      | exact ammonitekeep_Text_Text.mono _ _ _
      | exact ammonitelaw3_DeltaRuns.mono _
      | exact delta_Apply.mono _ _ _
      | exact delta_Check.mono _ _
      | exact digit_Put.mono _ _
      | exact LeO.none _
      | refine LeO.ite ?_ ?_
      | refine LeO.bind ?_ (fun _ => ?_)
theorem ammonitelaw3_DeltaParts.mono : ∀ a0 a1 a2 a3 k, LeO (ammonitelaw3_DeltaParts.f k a0 a1 a2 a3) (ammonitelaw3_DeltaParts.f (k + 1) a0 a1 a2 a3) := by
  intro a0 a1 a2 a3 k
  obtain ⟨ih0, ih1⟩ := ammonitelaw3_DeltaParts.mono_l k
  unfold ammonitelaw3_DeltaParts.f
  repeat' first
      | (with_reducible exact ih0 _ _ _ _ _ _)
      | (with_reducible exact ih1 _ _ _ _ _ _ _)
      | (with_reducible exact ammonitekeep_Text_Text.mono _ _ _)
      | (with_reducible exact ammonitelaw3_DeltaRuns.mono _)
      | (with_reducible exact delta_Apply.mono _ _ _)
      | (with_reducible exact delta_Check.mono _ _)
      | (with_reducible exact digit_Put.mono _ _)
      | (with_reducible exact LeO.refl _)
      | (with_reducible exact LeO.none _)
      | (with_reducible refine LeO.ite ?_ ?_)
      | (with_reducible refine LeO.bind ?_ (fun _ => ?_))
      | exact ih0 _ _ _ _ _ _
      | exact ih1 _ _ _ _ _ _ _
      | exact ammonitekeep_Text_Text.mono _ _ _
      | exact ammonitelaw3_DeltaRuns.mono _
      | exact delta_Apply.mono _ _ _
      | exact delta_Check.mono _ _
      | exact digit_Put.mono _ _
      | exact LeO.none _
      | refine LeO.ite ?_ ?_
      | refine LeO.bind ?_ (fun _ => ?_)
set_option maxHeartbeats 8000000 in
set_option maxRecDepth 100000 in
theorem ammonitelaw3_DeltaParts.calls (k : Nat) (a0_0 : Int) (A0_1 : Option Addr) (c0_1 : Nat) (l0_1 : List Int) (A1 : Option Addr) (c1 : Nat) (l1 : List Int) (a2 : Int) (r : Bool) (w : World) (hr0_1 : Kd.C (Kd.int .i64) w A0_1 l0_1.length l0_1) (hc0_1 : l0_1.length ≤ c0_1) (hr1 : Kd.C (Kd.int .i64) w A1 l1.length l1) (hc1 : l1.length ≤ c1) (h : ammonitelaw3_DeltaParts.f k a0_0 l0_1 l1 a2 = some r) (hrt : r = true) :
    Calls Try.prog 8 #[.agg #[.int .i64 a0_0, .slice A0_1 l0_1.length c0_1], .slice A1 l1.length c1, .int .u8 a2] w fun e w' => e = .returned (.bool r) ∧ Below w.heap.size w w' := by
  have HRT := Aside0.mk hrt
  clear hrt
  have hu37 := Try.underlying37
  have HR0_1 := Aside0.mk hr0_1
  have HC0_1 := Aside0.mk hc0_1
  clear hr0_1 hc0_1
  have HR1 := Aside0.mk hr1
  have HC1 := Aside0.mk hc1
  clear hr1 hc1
  have HB := Aside0.mk (Below.refl w.heap.size w)
  have H : ((ammonitekeep_Text_Text.f k a0_0 l0_1).bind fun t185 => (if t185.size + 21 ≤ 9223372036854775807 then (ammonitelaw3_DeltaParts.l0 k l1 a2 (catS t185 (⟨#[115, 111, 109, 101, 32, 98, 121, 116, 101, 115, 32, 97, 116, 32, 116, 104, 101, 32, 101, 110, 100]⟩ : ByteArray)) (⟨#[]⟩ : ByteArray) (⟨#[]⟩ : ByteArray) 0) else (none))) = some r := h
  clear h
  replace H := Option.bind_eq_some_iff.mp H
  obtain ⟨t185, A40, H⟩ := H
  replace H : (if t185.size + 21 ≤ 9223372036854775807 then (ammonitelaw3_DeltaParts.l0 k l1 a2 (catS t185 (⟨#[115, 111, 109, 101, 32, 98, 121, 116, 101, 115, 32, 97, 116, 32, 116, 104, 101, 32, 101, 110, 100]⟩ : ByteArray)) (⟨#[]⟩ : ByteArray) (⟨#[]⟩ : ByteArray) 0) else (none)) = some r := H
  have A4 := Aside0.mk A40
  clear A40
  by_cases c5 : t185.size + 21 ≤ 9223372036854775807
  · rw [if_pos c5] at H
    have c5b0 := eq_true c5
    have c5b1 : decide (t185.size + 21 ≤ 9223372036854775807) = true := decide_eq_true c5
    try have c5b2 : (9223372036854775807 < t185.size + 21) = False := eq_false (Nat.not_lt.2 c5)
    clear c5
    have H' := Aside0.mk H
    clear H
    go_enter Try.func8, Try.ntmps8
    go_wp2_with (first | ((with_reducible refine gate_dst (N := 3) rfl ?_); refine box_event ?hg (N := 3) ?hd (cs := #[.int .i64 a0_0, .slice A0_1 l0_1.length c0_1]) (t := 37) ?hr ?_; (case hd => rfl); (case hg => rfl); (case hr => first | (go_simp; done) | (go_simp; rfl)); intro gb184 hg w6 hbox hb; have n0_ := Aside0.mk (below_step (by repeat (first | (with_reducible first | exact HB.out | apply below_alloc | apply pw_below_drewN | apply below_drew1) | exact HB.out)) hb); have n1_ := Aside0.mk (hbox); have n2_ := Aside0.mk ((by rw [hg]; exact (below_size (by repeat (first | (with_reducible first | exact HB.out | apply below_alloc | apply pw_below_drewN | apply below_drew1) | exact HB.out))) : w.heap.size ≤ gb184)); have n3_ := Aside0.mk ((by rw [hg]; exact (below_size (by repeat (first | (with_reducible first | exact HB.out | apply below_alloc | apply pw_below_drewN | apply below_drew1) | exact HB.out))) : w.heap.size ≤ gb184)); clear HB; have HB := n0_; have BK184 := n1_; have GW184 := n2_; have GE184 := n3_; clear n0_ n1_ n2_ n3_; clear hb hbox hg; have hcz7_0 : w6.cell? ⟨gb184, 0, none⟩ = some (.int .i64 a0_0) := (blk_cell BK184.out 0).trans rfl; have hcz7_1 : w6.cell? ⟨gb184, 1, none⟩ = some (.slice A0_1 l0_1.length c0_1) := (blk_cell BK184.out 1).trans rfl; have hfz7_0 := blk_frozen BK184.out 0; have hfz7_1 := blk_frozen BK184.out 1) | (go_at_call 22; (try simp only [i64_w, i32_w]); (with_reducible refine (ammonitekeep_Text_Text.calls k a0_0 _ _ l0_1 t185 _ ?side1 ?side2 A4.out).mono ?_); (case side1 => repeat (first | exact (Kd.C_below HR0_1.out HB.out) | (with_reducible refine Kd.C_alloc ?_ _) | (with_reducible refine Kd.C_drewN ?_ _) | (with_reducible refine Kd.C_drew ?_))); (case side2 => exact HC0_1.out); rintro e w8 ⟨rfl, hb⟩; have n0_ := Aside0.mk (blk_below (g := gb184) (o := .cells #[.int .i64 a0_0, .slice A0_1 l0_1.length c0_1] 37 (0, 0)) (by (with_reducible repeat (first | refine blk_drewN ?_ _ | refine blk_drew ?_ | refine blk_alloc ?_ _)); exact BK184.out) hb); have n1_ := Aside0.mk (below_step (by repeat (first | (with_reducible first | exact HB.out | apply below_alloc | apply pw_below_drewN | apply below_drew1 | refine below_set ?_ GE184.out) | exact HB.out)) hb); clear BK184; clear HB; have BK184 := n0_; have HB := n1_; clear n0_ n1_; (try clear hb); (try clear hb2); (try clear hk); (try clear hi)))
    repeat (go_quiet (first | ((with_reducible refine gate_dst (N := 3) rfl ?_); refine box_event ?hg (N := 3) ?hd (cs := #[.int .i64 a0_0, .slice A0_1 l0_1.length c0_1]) (t := 37) ?hr ?_; (case hd => rfl); (case hg => rfl); (case hr => first | (go_simp; done) | (go_simp; rfl)); intro gb184 hg w6 hbox hb; have n0_ := Aside0.mk (below_step (by repeat (first | (with_reducible first | exact HB.out | apply below_alloc | apply pw_below_drewN | apply below_drew1) | exact HB.out)) hb); have n1_ := Aside0.mk (hbox); have n2_ := Aside0.mk ((by rw [hg]; exact (below_size (by repeat (first | (with_reducible first | exact HB.out | apply below_alloc | apply pw_below_drewN | apply below_drew1) | exact HB.out))) : w.heap.size ≤ gb184)); have n3_ := Aside0.mk ((by rw [hg]; exact (below_size (by repeat (first | (with_reducible first | exact HB.out | apply below_alloc | apply pw_below_drewN | apply below_drew1) | exact HB.out))) : w.heap.size ≤ gb184)); clear HB; have HB := n0_; have BK184 := n1_; have GW184 := n2_; have GE184 := n3_; clear n0_ n1_ n2_ n3_; clear hb hbox hg; have hcz7_0 : w6.cell? ⟨gb184, 0, none⟩ = some (.int .i64 a0_0) := (blk_cell BK184.out 0).trans rfl; have hcz7_1 : w6.cell? ⟨gb184, 1, none⟩ = some (.slice A0_1 l0_1.length c0_1) := (blk_cell BK184.out 1).trans rfl; have hfz7_0 := blk_frozen BK184.out 0; have hfz7_1 := blk_frozen BK184.out 1) | (go_at_call 22; (try simp only [i64_w, i32_w]); (with_reducible refine (ammonitekeep_Text_Text.calls k a0_0 _ _ l0_1 t185 _ ?side1 ?side2 A4.out).mono ?_); (case side1 => repeat (first | exact (Kd.C_below HR0_1.out HB.out) | (with_reducible refine Kd.C_alloc ?_ _) | (with_reducible refine Kd.C_drewN ?_ _) | (with_reducible refine Kd.C_drew ?_))); (case side2 => exact HC0_1.out); rintro e w8 ⟨rfl, hb⟩; have n0_ := Aside0.mk (blk_below (g := gb184) (o := .cells #[.int .i64 a0_0, .slice A0_1 l0_1.length c0_1] 37 (0, 0)) (by (with_reducible repeat (first | refine blk_drewN ?_ _ | refine blk_drew ?_ | refine blk_alloc ?_ _)); exact BK184.out) hb); have n1_ := Aside0.mk (below_step (by repeat (first | (with_reducible first | exact HB.out | apply below_alloc | apply pw_below_drewN | apply below_drew1 | refine below_set ?_ GE184.out) | exact HB.out)) hb); clear BK184; clear HB; have BK184 := n0_; have HB := n1_; clear n0_ n1_; (try clear hb); (try clear hb2); (try clear hk); (try clear hi))); try go_wp2_with (first | ((with_reducible refine gate_dst (N := 3) rfl ?_); refine box_event ?hg (N := 3) ?hd (cs := #[.int .i64 a0_0, .slice A0_1 l0_1.length c0_1]) (t := 37) ?hr ?_; (case hd => rfl); (case hg => rfl); (case hr => first | (go_simp; done) | (go_simp; rfl)); intro gb184 hg w6 hbox hb; have n0_ := Aside0.mk (below_step (by repeat (first | (with_reducible first | exact HB.out | apply below_alloc | apply pw_below_drewN | apply below_drew1) | exact HB.out)) hb); have n1_ := Aside0.mk (hbox); have n2_ := Aside0.mk ((by rw [hg]; exact (below_size (by repeat (first | (with_reducible first | exact HB.out | apply below_alloc | apply pw_below_drewN | apply below_drew1) | exact HB.out))) : w.heap.size ≤ gb184)); have n3_ := Aside0.mk ((by rw [hg]; exact (below_size (by repeat (first | (with_reducible first | exact HB.out | apply below_alloc | apply pw_below_drewN | apply below_drew1) | exact HB.out))) : w.heap.size ≤ gb184)); clear HB; have HB := n0_; have BK184 := n1_; have GW184 := n2_; have GE184 := n3_; clear n0_ n1_ n2_ n3_; clear hb hbox hg; have hcz7_0 : w6.cell? ⟨gb184, 0, none⟩ = some (.int .i64 a0_0) := (blk_cell BK184.out 0).trans rfl; have hcz7_1 : w6.cell? ⟨gb184, 1, none⟩ = some (.slice A0_1 l0_1.length c0_1) := (blk_cell BK184.out 1).trans rfl; have hfz7_0 := blk_frozen BK184.out 0; have hfz7_1 := blk_frozen BK184.out 1) | (go_at_call 22; (try simp only [i64_w, i32_w]); (with_reducible refine (ammonitekeep_Text_Text.calls k a0_0 _ _ l0_1 t185 _ ?side1 ?side2 A4.out).mono ?_); (case side1 => repeat (first | exact (Kd.C_below HR0_1.out HB.out) | (with_reducible refine Kd.C_alloc ?_ _) | (with_reducible refine Kd.C_drewN ?_ _) | (with_reducible refine Kd.C_drew ?_))); (case side2 => exact HC0_1.out); rintro e w8 ⟨rfl, hb⟩; have n0_ := Aside0.mk (blk_below (g := gb184) (o := .cells #[.int .i64 a0_0, .slice A0_1 l0_1.length c0_1] 37 (0, 0)) (by (with_reducible repeat (first | refine blk_drewN ?_ _ | refine blk_drew ?_ | refine blk_alloc ?_ _)); exact BK184.out) hb); have n1_ := Aside0.mk (below_step (by repeat (first | (with_reducible first | exact HB.out | apply below_alloc | apply pw_below_drewN | apply below_drew1 | refine below_set ?_ GE184.out) | exact HB.out)) hb); clear BK184; clear HB; have BK184 := n0_; have HB := n1_; clear n0_ n1_; (try clear hb); (try clear hb2); (try clear hk); (try clear hi))))
    go_loopg [8, 9, 10] k (fun kq v8 v9 v10 w' => ∃ (x8_1 : ByteArray) (x9_1 : ByteArray) (x10_1 : Int), v8 = .string x8_1 ∧ v9 = .string x9_1 ∧ v10 = .int .i64 x10_1 ∧ Aside0 (ammonitelaw3_DeltaParts.l0 kq l1 a2 (catS t185 (⟨#[115, 111, 109, 101, 32, 98, 121, 116, 101, 115, 32, 97, 116, 32, 116, 104, 101, 32, 101, 110, 100]⟩ : ByteArray)) x8_1 x9_1 x10_1 = some r) ∧ Aside0 (kq ≤ k) ∧ Aside0 (w'.heap[gb184]? = some (.cells #[.int .i64 a0_0, (.slice A0_1 l0_1.length c0_1)] 37 (0, 0))) ∧ Aside0 (Below w.heap.size w w'))
    case atStart => exact ⟨((⟨#[]⟩ : ByteArray)), ((⟨#[]⟩ : ByteArray)), (0), (by first | rfl | (simp; done) | (simp [*]; done)), (by first | rfl | (simp; done) | (simp [*]; done)), (by first | rfl | (simp; done) | (simp [*]; done)), H', ⟨Nat.le_refl _⟩, ⟨by (with_reducible repeat (first | refine blk_drewN ?_ _ | refine blk_drew ?_ | refine blk_alloc ?_ _)); exact BK184.out⟩, ⟨by repeat (first | (with_reducible first | exact HB.out | apply below_alloc | apply pw_below_drewN | apply below_drew1 | refine below_set ?_ GE184.out) | exact HB.out)⟩⟩
    case round =>
      clear H'
      try clear c1
      try clear p2
      try clear c5
      try clear c5b0
      try clear c5b1
      try clear c5b2
      try clear c8
      try clear hcz7_0
      try clear hcz7_1
      try clear hfz7_0
      try clear hfz7_1
      obtain ⟨x8_1, x9_1, x10_1, rfl, rfl, rfl, HA, HK1, BK184, HB⟩ := hrel
      cases gk with
      | zero => exact absurd HA.out (by simp [ammonitelaw3_DeltaParts.l0])
      | succ k1 =>
        have H := HA.out
        clear HA
        simp only [ammonitelaw3_DeltaParts.l0] at H
        have HC9 := Aside0.mk H
        clear H
        go_upto_region 4 with (fail)
        repeat (go_quiet (fail); go_upto_region 4 with (fail))
        go_cut [32] (fun v32 wc => ∃ (kq : Nat) (x32_8 : Bool), v32 = .bool x32_8 ∧ Aside0 (ammonitelaw3_DeltaParts.j1 kq l1 a2 (catS t185 (⟨#[115, 111, 109, 101, 32, 98, 121, 116, 101, 115, 32, 97, 116, 32, 116, 104, 101, 32, 101, 110, 100]⟩ : ByteArray)) x8_1 x9_1 x10_1 x32_8 = some r) ∧ Aside0 (kq ≤ k1) ∧ Aside0 (wc.heap[gb184]? = some (.cells #[.int .i64 a0_0, (.slice A0_1 l0_1.length c0_1)] 37 (0, 0))) ∧ Aside0 (Below w.heap.size w wc))
        case first =>
          have H := HC9.out
          clear HC9
          by_cases c10 : x10_1 < (l1.length : Int)
          · rw [if_pos c10] at H
            have c10b0 : decide (x10_1 < (l1.length : Int)) = true := decide_eq_true c10
            clear c10
            (first | rw [c10b0] | (simp only [i64_w, i32_w]; rw [c10b0]) | skip)
            have H' := Aside0.mk H
            clear H
            go_wp2
            repeat (go_quiet (fail); try go_wp2)
            go_meet
            case rel => exact ⟨_, (decide (x10_1 < 6)), (by first | rfl | (simp; done) | (simp [*]; done)), H', ⟨by have := HK1.out; first | omega | exact Nat.le_refl _⟩, ⟨by (with_reducible repeat (first | refine blk_drewN ?_ _ | refine blk_drew ?_ | refine blk_alloc ?_ _)); exact BK184.out⟩, ⟨by repeat (first | (with_reducible first | exact HB.out | apply below_alloc | apply pw_below_drewN | apply below_drew1 | refine below_set ?_ GE184.out) | exact HB.out)⟩⟩
            all_goals (exfalso; (try simp only [beq_iff_eq, bne_iff_ne, ne_eq, decide_eq_true_eq, decide_eq_false_iff_not, decide_eq_decide, bne_eq_false_iff_eq, beq_eq_false_iff_ne, Bool.not_eq_true, Bool.not_eq_false, Bool.not_eq_true', Bool.not_eq_false', Bool.true_beq, Bool.false_beq, Bool.true_bne, Bool.false_bne, Bool.bne_true, Bool.bne_false] at c5b0); (try simp only [beq_iff_eq, bne_iff_ne, ne_eq, decide_eq_true_eq, decide_eq_false_iff_not, decide_eq_decide, bne_eq_false_iff_eq, beq_eq_false_iff_ne, Bool.not_eq_true, Bool.not_eq_false, Bool.not_eq_true', Bool.not_eq_false', Bool.true_beq, Bool.false_beq, Bool.true_bne, Bool.false_bne, Bool.bne_true, Bool.bne_false] at c5b1); (try simp only [beq_iff_eq, bne_iff_ne, ne_eq, decide_eq_true_eq, decide_eq_false_iff_not, decide_eq_decide, bne_eq_false_iff_eq, beq_eq_false_iff_ne, Bool.not_eq_true, Bool.not_eq_false, Bool.not_eq_true', Bool.not_eq_false', Bool.true_beq, Bool.false_beq, Bool.true_bne, Bool.false_bne, Bool.bne_true, Bool.bne_false] at c10b0); (try unfold wrap64 at *); omega)
          · rw [if_neg c10] at H
            have c10b0 : decide (x10_1 < (l1.length : Int)) = false := decide_eq_false c10
            clear c10
            (first | rw [c10b0] | (simp only [i64_w, i32_w]; rw [c10b0]) | skip)
            have H' := Aside0.mk H
            clear H
            go_wp2
            repeat (go_quiet (fail); try go_wp2)
            go_meet
            case rel => exact ⟨_, (false), (by first | rfl | (simp; done) | (simp [*]; done)), H', ⟨by have := HK1.out; first | omega | exact Nat.le_refl _⟩, ⟨by (with_reducible repeat (first | refine blk_drewN ?_ _ | refine blk_drew ?_ | refine blk_alloc ?_ _)); exact BK184.out⟩, ⟨by repeat (first | (with_reducible first | exact HB.out | apply below_alloc | apply pw_below_drewN | apply below_drew1 | refine below_set ?_ GE184.out) | exact HB.out)⟩⟩
            all_goals (exfalso; (try simp only [beq_iff_eq, bne_iff_ne, ne_eq, decide_eq_true_eq, decide_eq_false_iff_not, decide_eq_decide, bne_eq_false_iff_eq, beq_eq_false_iff_ne, Bool.not_eq_true, Bool.not_eq_false, Bool.not_eq_true', Bool.not_eq_false', Bool.true_beq, Bool.false_beq, Bool.true_bne, Bool.false_bne, Bool.bne_true, Bool.bne_false] at c5b0); (try simp only [beq_iff_eq, bne_iff_ne, ne_eq, decide_eq_true_eq, decide_eq_false_iff_not, decide_eq_decide, bne_eq_false_iff_eq, beq_eq_false_iff_ne, Bool.not_eq_true, Bool.not_eq_false, Bool.not_eq_true', Bool.not_eq_false', Bool.true_beq, Bool.false_beq, Bool.true_bne, Bool.false_bne, Bool.bne_true, Bool.bne_false] at c5b1); (try simp only [beq_iff_eq, bne_iff_ne, ne_eq, decide_eq_true_eq, decide_eq_false_iff_not, decide_eq_decide, bne_eq_false_iff_eq, beq_eq_false_iff_ne, Bool.not_eq_true, Bool.not_eq_false, Bool.not_eq_true', Bool.not_eq_false', Bool.true_beq, Bool.false_beq, Bool.true_bne, Bool.false_bne, Bool.bne_true, Bool.bne_false] at c10b0); (try unfold wrap64 at *); omega)
        case rest =>
          clear HC9
          try clear c1
          try clear p2
          try clear c5
          try clear c5b0
          try clear c5b1
          try clear c5b2
          try clear p6
          try clear c8
          try clear c10
          try clear c10b0
          try clear hcz7_0
          try clear hcz7_1
          try clear hfz7_0
          try clear hfz7_1
          try clear p2
          obtain ⟨kq, x32_8, rfl, HA, HJ8, BK184, HB⟩ := hcut
          cases kq with
          | zero => exact absurd HA.out (by simp [ammonitelaw3_DeltaParts.j1])
          | succ kj8 =>
            have H := HA.out
            clear HA
            simp only [ammonitelaw3_DeltaParts.j1] at H
            by_cases c11 : x32_8 = true
            · subst c11
              have H1 : (if 0 ≤ x10_1 then (if x10_1 < (l1.length : Int) then ((ammonitebook_Within.f (rd l1 x10_1) 1 20).bind fun t187 => ((ammonitebook_Within.f (wrap64 (Int.tdiv (rd l1 x10_1) 20)) 0 (wrap64 (((catS t185 (⟨#[115, 111, 109, 101, 32, 98, 121, 116, 101, 115, 32, 97, 116, 32, 116, 104, 101, 32, 101, 110, 100]⟩ : ByteArray)).size : Int) - t187))).bind fun t189 => (if (Go.bits .and .i64 (rd l1 x10_1) 1) = 1 then ((some (([a2, (x10_1) % 256, 59, 64] : List Int) : List Int)).bind fun y191 => (if x8_1.size + (strOfNums y191).size ≤ 9223372036854775807 then (if x9_1.size + 2 ≤ 9223372036854775807 then (if (catS x9_1 (⟨#[52, 58]⟩ : ByteArray)).size + (strOfNums y191).size ≤ 9223372036854775807 then (ammonitelaw3_DeltaParts.l0 kj8 l1 a2 (catS t185 (⟨#[115, 111, 109, 101, 32, 98, 121, 116, 101, 115, 32, 97, 116, 32, 116, 104, 101, 32, 101, 110, 100]⟩ : ByteArray)) (catS x8_1 (strOfNums y191)) (catS (catS x9_1 (⟨#[52, 58]⟩ : ByteArray)) (strOfNums y191)) (wrap64 (x10_1 + 1))) else (none)) else (none)) else (none))) else (if 0 ≤ t189 then (if t189 ≤ (wrap64 (t189 + t187)) then (if (wrap64 (t189 + t187)) ≤ ((catS t185 (⟨#[115, 111, 109, 101, 32, 98, 121, 116, 101, 115, 32, 97, 116, 32, 116, 104, 101, 32, 101, 110, 100]⟩ : ByteArray)).size : Int) then (if x8_1.size + (cutS (catS t185 (⟨#[115, 111, 109, 101, 32, 98, 121, 116, 101, 115, 32, 97, 116, 32, 116, 104, 101, 32, 101, 110, 100]⟩ : ByteArray)) (t189 : Int).toNat ((wrap64 (t189 + t187)) : Int).toNat).size ≤ 9223372036854775807 then ((digit_Put.f kj8 t187).bind fun t194 => (if x9_1.size + t194.size ≤ 9223372036854775807 then (if (catS x9_1 t194).size + 1 ≤ 9223372036854775807 then ((digit_Put.f kj8 t189).bind fun t195 => (if (catS (catS x9_1 t194) (⟨#[64]⟩ : ByteArray)).size + t195.size ≤ 9223372036854775807 then (if (catS (catS (catS x9_1 t194) (⟨#[64]⟩ : ByteArray)) t195).size + 1 ≤ 9223372036854775807 then (ammonitelaw3_DeltaParts.l0 kj8 l1 a2 (catS t185 (⟨#[115, 111, 109, 101, 32, 98, 121, 116, 101, 115, 32, 97, 116, 32, 116, 104, 101, 32, 101, 110, 100]⟩ : ByteArray)) (catS x8_1 (cutS (catS t185 (⟨#[115, 111, 109, 101, 32, 98, 121, 116, 101, 115, 32, 97, 116, 32, 116, 104, 101, 32, 101, 110, 100]⟩ : ByteArray)) (t189 : Int).toNat ((wrap64 (t189 + t187)) : Int).toNat)) (catS (catS (catS (catS x9_1 t194) (⟨#[64]⟩ : ByteArray)) t195) (⟨#[44]⟩ : ByteArray)) (wrap64 (x10_1 + 1))) else (none)) else (none))) else (none)) else (none))) else (none)) else (none)) else (none)) else (none))))) else (none)) else (none)) = some r := by rw [if_pos rfl] at H; exact H
              clear H
              have H := H1
              clear H1
              by_cases c12 : 0 ≤ x10_1
              · rw [if_pos c12] at H
                have c12b0 : decide (0 ≤ x10_1) = true := decide_eq_true c12
                clear c12
                by_cases c13 : x10_1 < (l1.length : Int)
                · rw [if_pos c13] at H
                  have c13b0 : decide (x10_1 < (l1.length : Int)) = true := decide_eq_true c13
                  clear c13
                  replace H := Option.bind_eq_some_iff.mp H
                  obtain ⟨t187, A140, H⟩ := H
                  replace H : ((ammonitebook_Within.f (wrap64 (Int.tdiv (rd l1 x10_1) 20)) 0 (wrap64 (((catS t185 (⟨#[115, 111, 109, 101, 32, 98, 121, 116, 101, 115, 32, 97, 116, 32, 116, 104, 101, 32, 101, 110, 100]⟩ : ByteArray)).size : Int) - t187))).bind fun t189 => (if (Go.bits .and .i64 (rd l1 x10_1) 1) = 1 then ((some (([a2, (x10_1) % 256, 59, 64] : List Int) : List Int)).bind fun y191 => (if x8_1.size + (strOfNums y191).size ≤ 9223372036854775807 then (if x9_1.size + 2 ≤ 9223372036854775807 then (if (catS x9_1 (⟨#[52, 58]⟩ : ByteArray)).size + (strOfNums y191).size ≤ 9223372036854775807 then (ammonitelaw3_DeltaParts.l0 kj8 l1 a2 (catS t185 (⟨#[115, 111, 109, 101, 32, 98, 121, 116, 101, 115, 32, 97, 116, 32, 116, 104, 101, 32, 101, 110, 100]⟩ : ByteArray)) (catS x8_1 (strOfNums y191)) (catS (catS x9_1 (⟨#[52, 58]⟩ : ByteArray)) (strOfNums y191)) (wrap64 (x10_1 + 1))) else (none)) else (none)) else (none))) else (if 0 ≤ t189 then (if t189 ≤ (wrap64 (t189 + t187)) then (if (wrap64 (t189 + t187)) ≤ ((catS t185 (⟨#[115, 111, 109, 101, 32, 98, 121, 116, 101, 115, 32, 97, 116, 32, 116, 104, 101, 32, 101, 110, 100]⟩ : ByteArray)).size : Int) then (if x8_1.size + (cutS (catS t185 (⟨#[115, 111, 109, 101, 32, 98, 121, 116, 101, 115, 32, 97, 116, 32, 116, 104, 101, 32, 101, 110, 100]⟩ : ByteArray)) (t189 : Int).toNat ((wrap64 (t189 + t187)) : Int).toNat).size ≤ 9223372036854775807 then ((digit_Put.f kj8 t187).bind fun t194 => (if x9_1.size + t194.size ≤ 9223372036854775807 then (if (catS x9_1 t194).size + 1 ≤ 9223372036854775807 then ((digit_Put.f kj8 t189).bind fun t195 => (if (catS (catS x9_1 t194) (⟨#[64]⟩ : ByteArray)).size + t195.size ≤ 9223372036854775807 then (if (catS (catS (catS x9_1 t194) (⟨#[64]⟩ : ByteArray)) t195).size + 1 ≤ 9223372036854775807 then (ammonitelaw3_DeltaParts.l0 kj8 l1 a2 (catS t185 (⟨#[115, 111, 109, 101, 32, 98, 121, 116, 101, 115, 32, 97, 116, 32, 116, 104, 101, 32, 101, 110, 100]⟩ : ByteArray)) (catS x8_1 (cutS (catS t185 (⟨#[115, 111, 109, 101, 32, 98, 121, 116, 101, 115, 32, 97, 116, 32, 116, 104, 101, 32, 101, 110, 100]⟩ : ByteArray)) (t189 : Int).toNat ((wrap64 (t189 + t187)) : Int).toNat)) (catS (catS (catS (catS x9_1 t194) (⟨#[64]⟩ : ByteArray)) t195) (⟨#[44]⟩ : ByteArray)) (wrap64 (x10_1 + 1))) else (none)) else (none))) else (none)) else (none))) else (none)) else (none)) else (none)) else (none)))) = some r := H
                  have A14 := Aside0.mk A140
                  clear A140
                  replace H := Option.bind_eq_some_iff.mp H
                  obtain ⟨t189, A150, H⟩ := H
                  replace H : (if (Go.bits .and .i64 (rd l1 x10_1) 1) = 1 then ((some (([a2, (x10_1) % 256, 59, 64] : List Int) : List Int)).bind fun y191 => (if x8_1.size + (strOfNums y191).size ≤ 9223372036854775807 then (if x9_1.size + 2 ≤ 9223372036854775807 then (if (catS x9_1 (⟨#[52, 58]⟩ : ByteArray)).size + (strOfNums y191).size ≤ 9223372036854775807 then (ammonitelaw3_DeltaParts.l0 kj8 l1 a2 (catS t185 (⟨#[115, 111, 109, 101, 32, 98, 121, 116, 101, 115, 32, 97, 116, 32, 116, 104, 101, 32, 101, 110, 100]⟩ : ByteArray)) (catS x8_1 (strOfNums y191)) (catS (catS x9_1 (⟨#[52, 58]⟩ : ByteArray)) (strOfNums y191)) (wrap64 (x10_1 + 1))) else (none)) else (none)) else (none))) else (if 0 ≤ t189 then (if t189 ≤ (wrap64 (t189 + t187)) then (if (wrap64 (t189 + t187)) ≤ ((catS t185 (⟨#[115, 111, 109, 101, 32, 98, 121, 116, 101, 115, 32, 97, 116, 32, 116, 104, 101, 32, 101, 110, 100]⟩ : ByteArray)).size : Int) then (if x8_1.size + (cutS (catS t185 (⟨#[115, 111, 109, 101, 32, 98, 121, 116, 101, 115, 32, 97, 116, 32, 116, 104, 101, 32, 101, 110, 100]⟩ : ByteArray)) (t189 : Int).toNat ((wrap64 (t189 + t187)) : Int).toNat).size ≤ 9223372036854775807 then ((digit_Put.f kj8 t187).bind fun t194 => (if x9_1.size + t194.size ≤ 9223372036854775807 then (if (catS x9_1 t194).size + 1 ≤ 9223372036854775807 then ((digit_Put.f kj8 t189).bind fun t195 => (if (catS (catS x9_1 t194) (⟨#[64]⟩ : ByteArray)).size + t195.size ≤ 9223372036854775807 then (if (catS (catS (catS x9_1 t194) (⟨#[64]⟩ : ByteArray)) t195).size + 1 ≤ 9223372036854775807 then (ammonitelaw3_DeltaParts.l0 kj8 l1 a2 (catS t185 (⟨#[115, 111, 109, 101, 32, 98, 121, 116, 101, 115, 32, 97, 116, 32, 116, 104, 101, 32, 101, 110, 100]⟩ : ByteArray)) (catS x8_1 (cutS (catS t185 (⟨#[115, 111, 109, 101, 32, 98, 121, 116, 101, 115, 32, 97, 116, 32, 116, 104, 101, 32, 101, 110, 100]⟩ : ByteArray)) (t189 : Int).toNat ((wrap64 (t189 + t187)) : Int).toNat)) (catS (catS (catS (catS x9_1 t194) (⟨#[64]⟩ : ByteArray)) t195) (⟨#[44]⟩ : ByteArray)) (wrap64 (x10_1 + 1))) else (none)) else (none))) else (none)) else (none))) else (none)) else (none)) else (none)) else (none))) = some r := H
                  have A15 := Aside0.mk A150
                  clear A150
                  by_cases c16 : (Go.bits .and .i64 (rd l1 x10_1) 1) = 1
                  · rw [if_pos c16] at H
                    have c16b0 : ((Go.bits .and .i64 (rd l1 x10_1) 1) == 1) = true := beq_iff_eq.mpr c16
                    have c16b1 : ((Go.bits .and .i64 (rd l1 x10_1) 1) != 1) = false := bne_eq_false_iff_eq.mpr c16
                    clear c16
                    obtain ⟨y191, hy191⟩ : ∃ y_ : List Int, y_ = (([a2, (x10_1) % 256, 59, 64] : List Int)) := ⟨_, rfl⟩
                    replace H : (if x8_1.size + (strOfNums y191).size ≤ 9223372036854775807 then (if x9_1.size + 2 ≤ 9223372036854775807 then (if (catS x9_1 (⟨#[52, 58]⟩ : ByteArray)).size + (strOfNums y191).size ≤ 9223372036854775807 then (ammonitelaw3_DeltaParts.l0 kj8 l1 a2 (catS t185 (⟨#[115, 111, 109, 101, 32, 98, 121, 116, 101, 115, 32, 97, 116, 32, 116, 104, 101, 32, 101, 110, 100]⟩ : ByteArray)) (catS x8_1 (strOfNums y191)) (catS (catS x9_1 (⟨#[52, 58]⟩ : ByteArray)) (strOfNums y191)) (wrap64 (x10_1 + 1))) else (none)) else (none)) else (none)) = some r := by first | (rw [hy191]; with_reducible exact H) | (have H2_ := (Option.bind_some _ _).symm.trans H; rw [hy191]; with_reducible exact H2_) | (have H2_ := (Option.bind_some _ _).symm.trans H; with_reducible exact H2_) | with_reducible exact H | (rw [hy191]; exact H) | exact H
                    have Ny191 := Aside0.mk hy191
                    clear hy191
                    by_cases c17 : x8_1.size + (strOfNums y191).size ≤ 9223372036854775807
                    · rw [if_pos c17] at H
                      have c17b0 := eq_true c17
                      have c17b1 : decide (x8_1.size + (strOfNums y191).size ≤ 9223372036854775807) = true := decide_eq_true c17
                      try have c17b2 : (9223372036854775807 < x8_1.size + (strOfNums y191).size) = False := eq_false (Nat.not_lt.2 c17)
                      clear c17
                      by_cases c18 : x9_1.size + 2 ≤ 9223372036854775807
                      · rw [if_pos c18] at H
                        have c18b0 := eq_true c18
                        have c18b1 : decide (x9_1.size + 2 ≤ 9223372036854775807) = true := decide_eq_true c18
                        try have c18b2 : (9223372036854775807 < x9_1.size + 2) = False := eq_false (Nat.not_lt.2 c18)
                        clear c18
                        by_cases c19 : (catS x9_1 (⟨#[52, 58]⟩ : ByteArray)).size + (strOfNums y191).size ≤ 9223372036854775807
                        · rw [if_pos c19] at H
                          have c19b0 := eq_true c19
                          have c19b1 : decide ((catS x9_1 (⟨#[52, 58]⟩ : ByteArray)).size + (strOfNums y191).size ≤ 9223372036854775807) = true := decide_eq_true c19
                          try have c19b2 : (9223372036854775807 < (catS x9_1 (⟨#[52, 58]⟩ : ByteArray)).size + (strOfNums y191).size) = False := eq_false (Nat.not_lt.2 c19)
                          clear c19
                          have H' := Aside0.mk H
                          clear H
                          have p186 : 0 ≤ (x10_1 : Int) := of_decide_eq_true (by first | (with_reducible assumption) | assumption)
                          have q186 : x10_1 < (l1.length : Int) := of_decide_eq_true (by first | (with_reducible assumption) | assumption)
                          obtain ⟨ad186, e186, hx186_0⟩ := Kd.at_int HR1.out x10_1 p186 q186
                          cases e186
                          replace hx186_0 := (HB.out.cell (World.block_lt_of_cell? w _ hx186_0)).trans hx186_0
                          replace p186 := eq_true p186
                          replace q186 := eq_true q186
                          go_wp2_with (first | (go_at_call 17; (try simp only [i64_w, i32_w]); (with_reducible refine (ammonitebook_Within.calls (rd l1 x10_1) 1 20 t187 _ A14.out).mono ?_); rintro e w' ⟨rfl, ⟨nd, rfl⟩⟩; (try first | exact ⟨rfl, _, World.drewN_drewN _ _ _⟩ | exact ⟨rfl, _, Eq.trans (World.drewN_drewN _ _ _) (congrArg (World.drewN _) (Nat.add_assoc _ _ _))⟩); have p188 : 0 ≤ (x10_1 : Int) := of_decide_eq_true (by first | (with_reducible assumption) | assumption); have q188 : x10_1 < (l1.length : Int) := of_decide_eq_true (by first | (with_reducible assumption) | assumption); obtain ⟨ad188, e188, hx188_0⟩ := Kd.at_int HR1.out x10_1 p188 q188; obtain rfl : ad186 = ad188 := (by injection e188); replace hx188_0 := (HB.out.cell (World.block_lt_of_cell? w _ hx188_0)).trans hx188_0; replace p188 := eq_true p188; replace q188 := eq_true q188) | (go_at_call 17; (try simp only [i64_w, i32_w]); (with_reducible refine (ammonitebook_Within.calls (wrap64 (Int.tdiv (rd l1 x10_1) 20)) 0 (wrap64 (((catS t185 (⟨#[115, 111, 109, 101, 32, 98, 121, 116, 101, 115, 32, 97, 116, 32, 116, 104, 101, 32, 101, 110, 100]⟩ : ByteArray)).size : Int) - t187)) t189 _ A15.out).mono ?_); rintro e w' ⟨rfl, ⟨nd, rfl⟩⟩; (try first | exact ⟨rfl, _, World.drewN_drewN _ _ _⟩ | exact ⟨rfl, _, Eq.trans (World.drewN_drewN _ _ _) (congrArg (World.drewN _) (Nat.add_assoc _ _ _))⟩); have p190 : 0 ≤ (x10_1 : Int) := of_decide_eq_true (by first | (with_reducible assumption) | assumption); have q190 : x10_1 < (l1.length : Int) := of_decide_eq_true (by first | (with_reducible assumption) | assumption); obtain ⟨ad190, e190, hx190_0⟩ := Kd.at_int HR1.out x10_1 p190 q190; obtain rfl : ad186 = ad190 := (by injection e190); replace hx190_0 := (HB.out.cell (World.block_lt_of_cell? w _ hx190_0)).trans hx190_0; replace p190 := eq_true p190; replace q190 := eq_true q190) | ((with_reducible refine gate_dst (N := 59) rfl ?_); refine Kd.R_lit (Kd.int .u8) _ 5 ?hg (N := 59) ?hd (xs := ([a2, (x10_1) % 256, 59, 64] : List Int)) (inner := [.int .u8 a2, .int .u8 ((x10_1) % 256), .int .u8 59, .int .u8 64]) (ok := fun _ => True) (okp := fun _ => True) ?hr ?hp (fun _ hk => hk) trivial (Below.refl _ _) (Nat.le_refl _) (by simp) ?_; (case hd => rfl); (case hg => rfl); (case hr => first | (go_simp; done) | (go_simp; rfl)); (case hp => exact (Reps.one (show Kd.M (Kd.int .u8) _ _ _ a2 [.int .u8 a2] from rfl) (Reps.one (show Kd.M (Kd.int .u8) _ _ _ ((x10_1) % 256) [.int .u8 ((x10_1) % 256)] from rfl) (Reps.one (show Kd.M (Kd.int .u8) _ _ _ 59 [.int .u8 59] from rfl) (Reps.one (show Kd.M (Kd.int .u8) _ _ _ 64 [.int .u8 64] from rfl) (Reps.none _ _)))))); intro v192 w20 ho21 hb hg_ hnew_; clear hg_ hnew_; (first | rw [← Ny191.out] at ho21 | (simp only [Int.reduceToNat] at ho21; rw [← Ny191.out] at ho21)); have n0_ := Aside0.mk (Kd.R_lower ho21 (below_size (by repeat (first | (with_reducible first | exact HB.out | apply below_alloc | apply pw_below_drewN | apply below_drew1 | refine below_set ?_ GE184.out) | exact HB.out)))); have n1_ := Aside0.mk (blk_below (g := gb184) (o := .cells #[.int .i64 a0_0, .slice A0_1 l0_1.length c0_1] 37 (0, 0)) (by (with_reducible repeat (first | refine blk_drewN ?_ _ | refine blk_drew ?_ | refine blk_alloc ?_ _)); exact BK184.out) hb); have n2_ := Aside0.mk (below_step (by repeat (first | (with_reducible first | exact HB.out | apply below_alloc | apply pw_below_drewN | apply below_drew1 | refine below_set ?_ GE184.out) | exact HB.out)) hb); clear BK184; clear HB; have HO193 := n0_; have BK184 := n1_; have HB := n2_; clear n0_ n1_ n2_; clear hb ho21; have hcv22 := own_string (P := Try.prog) Try.underlying26 Try.underlying5 Try.underlying9 (Kd.own_of_R HO193.out)))
                          repeat (go_quiet (first | (go_at_call 17; (try simp only [i64_w, i32_w]); (with_reducible refine (ammonitebook_Within.calls (rd l1 x10_1) 1 20 t187 _ A14.out).mono ?_); rintro e w' ⟨rfl, ⟨nd, rfl⟩⟩; (try first | exact ⟨rfl, _, World.drewN_drewN _ _ _⟩ | exact ⟨rfl, _, Eq.trans (World.drewN_drewN _ _ _) (congrArg (World.drewN _) (Nat.add_assoc _ _ _))⟩); have p188 : 0 ≤ (x10_1 : Int) := of_decide_eq_true (by first | (with_reducible assumption) | assumption); have q188 : x10_1 < (l1.length : Int) := of_decide_eq_true (by first | (with_reducible assumption) | assumption); obtain ⟨ad188, e188, hx188_0⟩ := Kd.at_int HR1.out x10_1 p188 q188; obtain rfl : ad186 = ad188 := (by injection e188); replace hx188_0 := (HB.out.cell (World.block_lt_of_cell? w _ hx188_0)).trans hx188_0; replace p188 := eq_true p188; replace q188 := eq_true q188) | (go_at_call 17; (try simp only [i64_w, i32_w]); (with_reducible refine (ammonitebook_Within.calls (wrap64 (Int.tdiv (rd l1 x10_1) 20)) 0 (wrap64 (((catS t185 (⟨#[115, 111, 109, 101, 32, 98, 121, 116, 101, 115, 32, 97, 116, 32, 116, 104, 101, 32, 101, 110, 100]⟩ : ByteArray)).size : Int) - t187)) t189 _ A15.out).mono ?_); rintro e w' ⟨rfl, ⟨nd, rfl⟩⟩; (try first | exact ⟨rfl, _, World.drewN_drewN _ _ _⟩ | exact ⟨rfl, _, Eq.trans (World.drewN_drewN _ _ _) (congrArg (World.drewN _) (Nat.add_assoc _ _ _))⟩); have p190 : 0 ≤ (x10_1 : Int) := of_decide_eq_true (by first | (with_reducible assumption) | assumption); have q190 : x10_1 < (l1.length : Int) := of_decide_eq_true (by first | (with_reducible assumption) | assumption); obtain ⟨ad190, e190, hx190_0⟩ := Kd.at_int HR1.out x10_1 p190 q190; obtain rfl : ad186 = ad190 := (by injection e190); replace hx190_0 := (HB.out.cell (World.block_lt_of_cell? w _ hx190_0)).trans hx190_0; replace p190 := eq_true p190; replace q190 := eq_true q190) | ((with_reducible refine gate_dst (N := 59) rfl ?_); refine Kd.R_lit (Kd.int .u8) _ 5 ?hg (N := 59) ?hd (xs := ([a2, (x10_1) % 256, 59, 64] : List Int)) (inner := [.int .u8 a2, .int .u8 ((x10_1) % 256), .int .u8 59, .int .u8 64]) (ok := fun _ => True) (okp := fun _ => True) ?hr ?hp (fun _ hk => hk) trivial (Below.refl _ _) (Nat.le_refl _) (by simp) ?_; (case hd => rfl); (case hg => rfl); (case hr => first | (go_simp; done) | (go_simp; rfl)); (case hp => exact (Reps.one (show Kd.M (Kd.int .u8) _ _ _ a2 [.int .u8 a2] from rfl) (Reps.one (show Kd.M (Kd.int .u8) _ _ _ ((x10_1) % 256) [.int .u8 ((x10_1) % 256)] from rfl) (Reps.one (show Kd.M (Kd.int .u8) _ _ _ 59 [.int .u8 59] from rfl) (Reps.one (show Kd.M (Kd.int .u8) _ _ _ 64 [.int .u8 64] from rfl) (Reps.none _ _)))))); intro v192 w20 ho21 hb hg_ hnew_; clear hg_ hnew_; (first | rw [← Ny191.out] at ho21 | (simp only [Int.reduceToNat] at ho21; rw [← Ny191.out] at ho21)); have n0_ := Aside0.mk (Kd.R_lower ho21 (below_size (by repeat (first | (with_reducible first | exact HB.out | apply below_alloc | apply pw_below_drewN | apply below_drew1 | refine below_set ?_ GE184.out) | exact HB.out)))); have n1_ := Aside0.mk (blk_below (g := gb184) (o := .cells #[.int .i64 a0_0, .slice A0_1 l0_1.length c0_1] 37 (0, 0)) (by (with_reducible repeat (first | refine blk_drewN ?_ _ | refine blk_drew ?_ | refine blk_alloc ?_ _)); exact BK184.out) hb); have n2_ := Aside0.mk (below_step (by repeat (first | (with_reducible first | exact HB.out | apply below_alloc | apply pw_below_drewN | apply below_drew1 | refine below_set ?_ GE184.out) | exact HB.out)) hb); clear BK184; clear HB; have HO193 := n0_; have BK184 := n1_; have HB := n2_; clear n0_ n1_ n2_; clear hb ho21; have hcv22 := own_string (P := Try.prog) Try.underlying26 Try.underlying5 Try.underlying9 (Kd.own_of_R HO193.out))); try go_wp2_with (first | (go_at_call 17; (try simp only [i64_w, i32_w]); (with_reducible refine (ammonitebook_Within.calls (rd l1 x10_1) 1 20 t187 _ A14.out).mono ?_); rintro e w' ⟨rfl, ⟨nd, rfl⟩⟩; (try first | exact ⟨rfl, _, World.drewN_drewN _ _ _⟩ | exact ⟨rfl, _, Eq.trans (World.drewN_drewN _ _ _) (congrArg (World.drewN _) (Nat.add_assoc _ _ _))⟩); have p188 : 0 ≤ (x10_1 : Int) := of_decide_eq_true (by first | (with_reducible assumption) | assumption); have q188 : x10_1 < (l1.length : Int) := of_decide_eq_true (by first | (with_reducible assumption) | assumption); obtain ⟨ad188, e188, hx188_0⟩ := Kd.at_int HR1.out x10_1 p188 q188; obtain rfl : ad186 = ad188 := (by injection e188); replace hx188_0 := (HB.out.cell (World.block_lt_of_cell? w _ hx188_0)).trans hx188_0; replace p188 := eq_true p188; replace q188 := eq_true q188) | (go_at_call 17; (try simp only [i64_w, i32_w]); (with_reducible refine (ammonitebook_Within.calls (wrap64 (Int.tdiv (rd l1 x10_1) 20)) 0 (wrap64 (((catS t185 (⟨#[115, 111, 109, 101, 32, 98, 121, 116, 101, 115, 32, 97, 116, 32, 116, 104, 101, 32, 101, 110, 100]⟩ : ByteArray)).size : Int) - t187)) t189 _ A15.out).mono ?_); rintro e w' ⟨rfl, ⟨nd, rfl⟩⟩; (try first | exact ⟨rfl, _, World.drewN_drewN _ _ _⟩ | exact ⟨rfl, _, Eq.trans (World.drewN_drewN _ _ _) (congrArg (World.drewN _) (Nat.add_assoc _ _ _))⟩); have p190 : 0 ≤ (x10_1 : Int) := of_decide_eq_true (by first | (with_reducible assumption) | assumption); have q190 : x10_1 < (l1.length : Int) := of_decide_eq_true (by first | (with_reducible assumption) | assumption); obtain ⟨ad190, e190, hx190_0⟩ := Kd.at_int HR1.out x10_1 p190 q190; obtain rfl : ad186 = ad190 := (by injection e190); replace hx190_0 := (HB.out.cell (World.block_lt_of_cell? w _ hx190_0)).trans hx190_0; replace p190 := eq_true p190; replace q190 := eq_true q190) | ((with_reducible refine gate_dst (N := 59) rfl ?_); refine Kd.R_lit (Kd.int .u8) _ 5 ?hg (N := 59) ?hd (xs := ([a2, (x10_1) % 256, 59, 64] : List Int)) (inner := [.int .u8 a2, .int .u8 ((x10_1) % 256), .int .u8 59, .int .u8 64]) (ok := fun _ => True) (okp := fun _ => True) ?hr ?hp (fun _ hk => hk) trivial (Below.refl _ _) (Nat.le_refl _) (by simp) ?_; (case hd => rfl); (case hg => rfl); (case hr => first | (go_simp; done) | (go_simp; rfl)); (case hp => exact (Reps.one (show Kd.M (Kd.int .u8) _ _ _ a2 [.int .u8 a2] from rfl) (Reps.one (show Kd.M (Kd.int .u8) _ _ _ ((x10_1) % 256) [.int .u8 ((x10_1) % 256)] from rfl) (Reps.one (show Kd.M (Kd.int .u8) _ _ _ 59 [.int .u8 59] from rfl) (Reps.one (show Kd.M (Kd.int .u8) _ _ _ 64 [.int .u8 64] from rfl) (Reps.none _ _)))))); intro v192 w20 ho21 hb hg_ hnew_; clear hg_ hnew_; (first | rw [← Ny191.out] at ho21 | (simp only [Int.reduceToNat] at ho21; rw [← Ny191.out] at ho21)); have n0_ := Aside0.mk (Kd.R_lower ho21 (below_size (by repeat (first | (with_reducible first | exact HB.out | apply below_alloc | apply pw_below_drewN | apply below_drew1 | refine below_set ?_ GE184.out) | exact HB.out)))); have n1_ := Aside0.mk (blk_below (g := gb184) (o := .cells #[.int .i64 a0_0, .slice A0_1 l0_1.length c0_1] 37 (0, 0)) (by (with_reducible repeat (first | refine blk_drewN ?_ _ | refine blk_drew ?_ | refine blk_alloc ?_ _)); exact BK184.out) hb); have n2_ := Aside0.mk (below_step (by repeat (first | (with_reducible first | exact HB.out | apply below_alloc | apply pw_below_drewN | apply below_drew1 | refine below_set ?_ GE184.out) | exact HB.out)) hb); clear BK184; clear HB; have HO193 := n0_; have BK184 := n1_; have HB := n2_; clear n0_ n1_ n2_; clear hb ho21; have hcv22 := own_string (P := Try.prog) Try.underlying26 Try.underlying5 Try.underlying9 (Kd.own_of_R HO193.out))))
                          go_roundg kj8
                          case measure => have := HK1.out; have := HJ8.out; omega
                          case rel => exact ⟨(catS x8_1 (strOfNums y191)), (catS (catS x9_1 (⟨#[52, 58]⟩ : ByteArray)) (strOfNums y191)), (wrap64 (x10_1 + 1)), (by first | rfl | (simp; done) | (simp [*]; done)), (by first | rfl | (simp; done) | (simp [*]; done)), (by first | rfl | (simp; done) | (simp [*]; done)), H', ⟨by have := HK1.out; have := HJ8.out; omega⟩, ⟨by (with_reducible repeat (first | refine blk_drewN ?_ _ | refine blk_drew ?_ | refine blk_alloc ?_ _)); exact BK184.out⟩, ⟨by repeat (first | (with_reducible first | exact HB.out | apply below_alloc | apply pw_below_drewN | apply below_drew1 | refine below_set ?_ GE184.out) | exact HB.out)⟩⟩
                          all_goals (exfalso; (try simp only [beq_iff_eq, bne_iff_ne, ne_eq, decide_eq_true_eq, decide_eq_false_iff_not, decide_eq_decide, bne_eq_false_iff_eq, beq_eq_false_iff_ne, Bool.not_eq_true, Bool.not_eq_false, Bool.not_eq_true', Bool.not_eq_false', Bool.true_beq, Bool.false_beq, Bool.true_bne, Bool.false_bne, Bool.bne_true, Bool.bne_false] at c5b0); (try simp only [beq_iff_eq, bne_iff_ne, ne_eq, decide_eq_true_eq, decide_eq_false_iff_not, decide_eq_decide, bne_eq_false_iff_eq, beq_eq_false_iff_ne, Bool.not_eq_true, Bool.not_eq_false, Bool.not_eq_true', Bool.not_eq_false', Bool.true_beq, Bool.false_beq, Bool.true_bne, Bool.false_bne, Bool.bne_true, Bool.bne_false] at c5b1); (try simp only [beq_iff_eq, bne_iff_ne, ne_eq, decide_eq_true_eq, decide_eq_false_iff_not, decide_eq_decide, bne_eq_false_iff_eq, beq_eq_false_iff_ne, Bool.not_eq_true, Bool.not_eq_false, Bool.not_eq_true', Bool.not_eq_false', Bool.true_beq, Bool.false_beq, Bool.true_bne, Bool.false_bne, Bool.bne_true, Bool.bne_false] at c12b0); (try simp only [beq_iff_eq, bne_iff_ne, ne_eq, decide_eq_true_eq, decide_eq_false_iff_not, decide_eq_decide, bne_eq_false_iff_eq, beq_eq_false_iff_ne, Bool.not_eq_true, Bool.not_eq_false, Bool.not_eq_true', Bool.not_eq_false', Bool.true_beq, Bool.false_beq, Bool.true_bne, Bool.false_bne, Bool.bne_true, Bool.bne_false] at c13b0); (try simp only [beq_iff_eq, bne_iff_ne, ne_eq, decide_eq_true_eq, decide_eq_false_iff_not, decide_eq_decide, bne_eq_false_iff_eq, beq_eq_false_iff_ne, Bool.not_eq_true, Bool.not_eq_false, Bool.not_eq_true', Bool.not_eq_false', Bool.true_beq, Bool.false_beq, Bool.true_bne, Bool.false_bne, Bool.bne_true, Bool.bne_false] at c16b0); (try simp only [beq_iff_eq, bne_iff_ne, ne_eq, decide_eq_true_eq, decide_eq_false_iff_not, decide_eq_decide, bne_eq_false_iff_eq, beq_eq_false_iff_ne, Bool.not_eq_true, Bool.not_eq_false, Bool.not_eq_true', Bool.not_eq_false', Bool.true_beq, Bool.false_beq, Bool.true_bne, Bool.false_bne, Bool.bne_true, Bool.bne_false] at c16b1); (try simp only [beq_iff_eq, bne_iff_ne, ne_eq, decide_eq_true_eq, decide_eq_false_iff_not, decide_eq_decide, bne_eq_false_iff_eq, beq_eq_false_iff_ne, Bool.not_eq_true, Bool.not_eq_false, Bool.not_eq_true', Bool.not_eq_false', Bool.true_beq, Bool.false_beq, Bool.true_bne, Bool.false_bne, Bool.bne_true, Bool.bne_false] at c17b0); (try simp only [beq_iff_eq, bne_iff_ne, ne_eq, decide_eq_true_eq, decide_eq_false_iff_not, decide_eq_decide, bne_eq_false_iff_eq, beq_eq_false_iff_ne, Bool.not_eq_true, Bool.not_eq_false, Bool.not_eq_true', Bool.not_eq_false', Bool.true_beq, Bool.false_beq, Bool.true_bne, Bool.false_bne, Bool.bne_true, Bool.bne_false] at c17b1); (try simp only [beq_iff_eq, bne_iff_ne, ne_eq, decide_eq_true_eq, decide_eq_false_iff_not, decide_eq_decide, bne_eq_false_iff_eq, beq_eq_false_iff_ne, Bool.not_eq_true, Bool.not_eq_false, Bool.not_eq_true', Bool.not_eq_false', Bool.true_beq, Bool.false_beq, Bool.true_bne, Bool.false_bne, Bool.bne_true, Bool.bne_false] at c18b0); (try simp only [beq_iff_eq, bne_iff_ne, ne_eq, decide_eq_true_eq, decide_eq_false_iff_not, decide_eq_decide, bne_eq_false_iff_eq, beq_eq_false_iff_ne, Bool.not_eq_true, Bool.not_eq_false, Bool.not_eq_true', Bool.not_eq_false', Bool.true_beq, Bool.false_beq, Bool.true_bne, Bool.false_bne, Bool.bne_true, Bool.bne_false] at c18b1); (try simp only [beq_iff_eq, bne_iff_ne, ne_eq, decide_eq_true_eq, decide_eq_false_iff_not, decide_eq_decide, bne_eq_false_iff_eq, beq_eq_false_iff_ne, Bool.not_eq_true, Bool.not_eq_false, Bool.not_eq_true', Bool.not_eq_false', Bool.true_beq, Bool.false_beq, Bool.true_bne, Bool.false_bne, Bool.bne_true, Bool.bne_false] at c19b0); (try simp only [beq_iff_eq, bne_iff_ne, ne_eq, decide_eq_true_eq, decide_eq_false_iff_not, decide_eq_decide, bne_eq_false_iff_eq, beq_eq_false_iff_ne, Bool.not_eq_true, Bool.not_eq_false, Bool.not_eq_true', Bool.not_eq_false', Bool.true_beq, Bool.false_beq, Bool.true_bne, Bool.false_bne, Bool.bne_true, Bool.bne_false] at c19b1); (try unfold wrap64 at *); omega)
                        · rw [if_neg c19] at H
                          exact absurd H (by simp)
                      · rw [if_neg c18] at H
                        exact absurd H (by simp)
                    · rw [if_neg c17] at H
                      exact absurd H (by simp)
                  · rw [if_neg c16] at H
                    have c16b0 : ((Go.bits .and .i64 (rd l1 x10_1) 1) == 1) = false := beq_eq_false_iff_ne.mpr c16
                    have c16b1 : ((Go.bits .and .i64 (rd l1 x10_1) 1) != 1) = true := bne_iff_ne.mpr c16
                    by_cases c23 : 0 ≤ t189
                    · rw [if_pos c23] at H
                      have c23b0 := eq_true c23
                      have c23b1 : decide (0 ≤ t189) = true := decide_eq_true c23
                      clear c23
                      by_cases c24 : t189 ≤ (wrap64 (t189 + t187))
                      · rw [if_pos c24] at H
                        have c24b0 := eq_true c24
                        have c24b1 : decide (t189 ≤ (wrap64 (t189 + t187))) = true := decide_eq_true c24
                        by_cases c25 : (wrap64 (t189 + t187)) ≤ ((catS t185 (⟨#[115, 111, 109, 101, 32, 98, 121, 116, 101, 115, 32, 97, 116, 32, 116, 104, 101, 32, 101, 110, 100]⟩ : ByteArray)).size : Int)
                        · rw [if_pos c25] at H
                          have c25b0 := eq_true c25
                          have c25b1 : decide ((wrap64 (t189 + t187)) ≤ ((catS t185 (⟨#[115, 111, 109, 101, 32, 98, 121, 116, 101, 115, 32, 97, 116, 32, 116, 104, 101, 32, 101, 110, 100]⟩ : ByteArray)).size : Int)) = true := decide_eq_true c25
                          by_cases c26 : x8_1.size + (cutS (catS t185 (⟨#[115, 111, 109, 101, 32, 98, 121, 116, 101, 115, 32, 97, 116, 32, 116, 104, 101, 32, 101, 110, 100]⟩ : ByteArray)) (t189 : Int).toNat ((wrap64 (t189 + t187)) : Int).toNat).size ≤ 9223372036854775807
                          · rw [if_pos c26] at H
                            have c26b0 := eq_true c26
                            have c26b1 : decide (x8_1.size + (cutS (catS t185 (⟨#[115, 111, 109, 101, 32, 98, 121, 116, 101, 115, 32, 97, 116, 32, 116, 104, 101, 32, 101, 110, 100]⟩ : ByteArray)) (t189 : Int).toNat ((wrap64 (t189 + t187)) : Int).toNat).size ≤ 9223372036854775807) = true := decide_eq_true c26
                            try have c26b2 : (9223372036854775807 < x8_1.size + (cutS (catS t185 (⟨#[115, 111, 109, 101, 32, 98, 121, 116, 101, 115, 32, 97, 116, 32, 116, 104, 101, 32, 101, 110, 100]⟩ : ByteArray)) (t189 : Int).toNat ((wrap64 (t189 + t187)) : Int).toNat).size) = False := eq_false (Nat.not_lt.2 c26)
                            clear c26
                            replace H := Option.bind_eq_some_iff.mp H
                            obtain ⟨t194, A270, H⟩ := H
                            replace H : (if x9_1.size + t194.size ≤ 9223372036854775807 then (if (catS x9_1 t194).size + 1 ≤ 9223372036854775807 then ((digit_Put.f kj8 t189).bind fun t195 => (if (catS (catS x9_1 t194) (⟨#[64]⟩ : ByteArray)).size + t195.size ≤ 9223372036854775807 then (if (catS (catS (catS x9_1 t194) (⟨#[64]⟩ : ByteArray)) t195).size + 1 ≤ 9223372036854775807 then (ammonitelaw3_DeltaParts.l0 kj8 l1 a2 (catS t185 (⟨#[115, 111, 109, 101, 32, 98, 121, 116, 101, 115, 32, 97, 116, 32, 116, 104, 101, 32, 101, 110, 100]⟩ : ByteArray)) (catS x8_1 (cutS (catS t185 (⟨#[115, 111, 109, 101, 32, 98, 121, 116, 101, 115, 32, 97, 116, 32, 116, 104, 101, 32, 101, 110, 100]⟩ : ByteArray)) (t189 : Int).toNat ((wrap64 (t189 + t187)) : Int).toNat)) (catS (catS (catS (catS x9_1 t194) (⟨#[64]⟩ : ByteArray)) t195) (⟨#[44]⟩ : ByteArray)) (wrap64 (x10_1 + 1))) else (none)) else (none))) else (none)) else (none)) = some r := H
                            have A27 := Aside0.mk A270
                            clear A270
                            by_cases c28 : x9_1.size + t194.size ≤ 9223372036854775807
                            · rw [if_pos c28] at H
                              have c28b0 := eq_true c28
                              have c28b1 : decide (x9_1.size + t194.size ≤ 9223372036854775807) = true := decide_eq_true c28
                              try have c28b2 : (9223372036854775807 < x9_1.size + t194.size) = False := eq_false (Nat.not_lt.2 c28)
                              clear c28
                              by_cases c29 : (catS x9_1 t194).size + 1 ≤ 9223372036854775807
                              · rw [if_pos c29] at H
                                have c29b0 := eq_true c29
                                have c29b1 : decide ((catS x9_1 t194).size + 1 ≤ 9223372036854775807) = true := decide_eq_true c29
                                try have c29b2 : (9223372036854775807 < (catS x9_1 t194).size + 1) = False := eq_false (Nat.not_lt.2 c29)
                                clear c29
                                replace H := Option.bind_eq_some_iff.mp H
                                obtain ⟨t195, A300, H⟩ := H
                                replace H : (if (catS (catS x9_1 t194) (⟨#[64]⟩ : ByteArray)).size + t195.size ≤ 9223372036854775807 then (if (catS (catS (catS x9_1 t194) (⟨#[64]⟩ : ByteArray)) t195).size + 1 ≤ 9223372036854775807 then (ammonitelaw3_DeltaParts.l0 kj8 l1 a2 (catS t185 (⟨#[115, 111, 109, 101, 32, 98, 121, 116, 101, 115, 32, 97, 116, 32, 116, 104, 101, 32, 101, 110, 100]⟩ : ByteArray)) (catS x8_1 (cutS (catS t185 (⟨#[115, 111, 109, 101, 32, 98, 121, 116, 101, 115, 32, 97, 116, 32, 116, 104, 101, 32, 101, 110, 100]⟩ : ByteArray)) (t189 : Int).toNat ((wrap64 (t189 + t187)) : Int).toNat)) (catS (catS (catS (catS x9_1 t194) (⟨#[64]⟩ : ByteArray)) t195) (⟨#[44]⟩ : ByteArray)) (wrap64 (x10_1 + 1))) else (none)) else (none)) = some r := H
                                have A30 := Aside0.mk A300
                                clear A300
                                by_cases c31 : (catS (catS x9_1 t194) (⟨#[64]⟩ : ByteArray)).size + t195.size ≤ 9223372036854775807
                                · rw [if_pos c31] at H
                                  have c31b0 := eq_true c31
                                  have c31b1 : decide ((catS (catS x9_1 t194) (⟨#[64]⟩ : ByteArray)).size + t195.size ≤ 9223372036854775807) = true := decide_eq_true c31
                                  try have c31b2 : (9223372036854775807 < (catS (catS x9_1 t194) (⟨#[64]⟩ : ByteArray)).size + t195.size) = False := eq_false (Nat.not_lt.2 c31)
                                  clear c31
                                  by_cases c32 : (catS (catS (catS x9_1 t194) (⟨#[64]⟩ : ByteArray)) t195).size + 1 ≤ 9223372036854775807
                                  · rw [if_pos c32] at H
                                    have c32b0 := eq_true c32
                                    have c32b1 : decide ((catS (catS (catS x9_1 t194) (⟨#[64]⟩ : ByteArray)) t195).size + 1 ≤ 9223372036854775807) = true := decide_eq_true c32
                                    try have c32b2 : (9223372036854775807 < (catS (catS (catS x9_1 t194) (⟨#[64]⟩ : ByteArray)) t195).size + 1) = False := eq_false (Nat.not_lt.2 c32)
                                    clear c32
                                    have H' := Aside0.mk H
                                    clear H
                                    have p186 : 0 ≤ (x10_1 : Int) := of_decide_eq_true (by first | (with_reducible assumption) | assumption)
                                    have q186 : x10_1 < (l1.length : Int) := of_decide_eq_true (by first | (with_reducible assumption) | assumption)
                                    obtain ⟨ad186, e186, hx186_0⟩ := Kd.at_int HR1.out x10_1 p186 q186
                                    cases e186
                                    replace hx186_0 := (HB.out.cell (World.block_lt_of_cell? w _ hx186_0)).trans hx186_0
                                    replace p186 := eq_true p186
                                    replace q186 := eq_true q186
                                    go_wp2_with (first | (go_at_call 17; (try simp only [i64_w, i32_w]); (with_reducible refine (ammonitebook_Within.calls (rd l1 x10_1) 1 20 t187 _ A14.out).mono ?_); rintro e w' ⟨rfl, ⟨nd, rfl⟩⟩; (try first | exact ⟨rfl, _, World.drewN_drewN _ _ _⟩ | exact ⟨rfl, _, Eq.trans (World.drewN_drewN _ _ _) (congrArg (World.drewN _) (Nat.add_assoc _ _ _))⟩); have p188 : 0 ≤ (x10_1 : Int) := of_decide_eq_true (by first | (with_reducible assumption) | assumption); have q188 : x10_1 < (l1.length : Int) := of_decide_eq_true (by first | (with_reducible assumption) | assumption); obtain ⟨ad188, e188, hx188_0⟩ := Kd.at_int HR1.out x10_1 p188 q188; obtain rfl : ad186 = ad188 := (by injection e188); replace hx188_0 := (HB.out.cell (World.block_lt_of_cell? w _ hx188_0)).trans hx188_0; replace p188 := eq_true p188; replace q188 := eq_true q188) | (go_at_call 17; (try simp only [i64_w, i32_w]); (with_reducible refine (ammonitebook_Within.calls (wrap64 (Int.tdiv (rd l1 x10_1) 20)) 0 (wrap64 (((catS t185 (⟨#[115, 111, 109, 101, 32, 98, 121, 116, 101, 115, 32, 97, 116, 32, 116, 104, 101, 32, 101, 110, 100]⟩ : ByteArray)).size : Int) - t187)) t189 _ A15.out).mono ?_); rintro e w' ⟨rfl, ⟨nd, rfl⟩⟩; (try first | exact ⟨rfl, _, World.drewN_drewN _ _ _⟩ | exact ⟨rfl, _, Eq.trans (World.drewN_drewN _ _ _) (congrArg (World.drewN _) (Nat.add_assoc _ _ _))⟩); have p190 : 0 ≤ (x10_1 : Int) := of_decide_eq_true (by first | (with_reducible assumption) | assumption); have q190 : x10_1 < (l1.length : Int) := of_decide_eq_true (by first | (with_reducible assumption) | assumption); obtain ⟨ad190, e190, hx190_0⟩ := Kd.at_int HR1.out x10_1 p190 q190; obtain rfl : ad186 = ad190 := (by injection e190); replace hx190_0 := (HB.out.cell (World.block_lt_of_cell? w _ hx190_0)).trans hx190_0; replace p190 := eq_true p190; replace q190 := eq_true q190) | (go_at_call 18; (try simp only [i64_w, i32_w]); (with_reducible refine (digit_Put.calls kj8 t187 t194 _ A27.out).mono ?_); rintro e w' ⟨rfl, ⟨nd, rfl⟩⟩; (try first | exact ⟨rfl, _, World.drewN_drewN _ _ _⟩ | exact ⟨rfl, _, Eq.trans (World.drewN_drewN _ _ _) (congrArg (World.drewN _) (Nat.add_assoc _ _ _))⟩)) | (go_at_call 18; (try simp only [i64_w, i32_w]); (with_reducible refine (digit_Put.calls kj8 t189 t195 _ A30.out).mono ?_); rintro e w' ⟨rfl, ⟨nd, rfl⟩⟩; (try first | exact ⟨rfl, _, World.drewN_drewN _ _ _⟩ | exact ⟨rfl, _, Eq.trans (World.drewN_drewN _ _ _) (congrArg (World.drewN _) (Nat.add_assoc _ _ _))⟩)))
                                    repeat (go_quiet (first | (go_at_call 17; (try simp only [i64_w, i32_w]); (with_reducible refine (ammonitebook_Within.calls (rd l1 x10_1) 1 20 t187 _ A14.out).mono ?_); rintro e w' ⟨rfl, ⟨nd, rfl⟩⟩; (try first | exact ⟨rfl, _, World.drewN_drewN _ _ _⟩ | exact ⟨rfl, _, Eq.trans (World.drewN_drewN _ _ _) (congrArg (World.drewN _) (Nat.add_assoc _ _ _))⟩); have p188 : 0 ≤ (x10_1 : Int) := of_decide_eq_true (by first | (with_reducible assumption) | assumption); have q188 : x10_1 < (l1.length : Int) := of_decide_eq_true (by first | (with_reducible assumption) | assumption); obtain ⟨ad188, e188, hx188_0⟩ := Kd.at_int HR1.out x10_1 p188 q188; obtain rfl : ad186 = ad188 := (by injection e188); replace hx188_0 := (HB.out.cell (World.block_lt_of_cell? w _ hx188_0)).trans hx188_0; replace p188 := eq_true p188; replace q188 := eq_true q188) | (go_at_call 17; (try simp only [i64_w, i32_w]); (with_reducible refine (ammonitebook_Within.calls (wrap64 (Int.tdiv (rd l1 x10_1) 20)) 0 (wrap64 (((catS t185 (⟨#[115, 111, 109, 101, 32, 98, 121, 116, 101, 115, 32, 97, 116, 32, 116, 104, 101, 32, 101, 110, 100]⟩ : ByteArray)).size : Int) - t187)) t189 _ A15.out).mono ?_); rintro e w' ⟨rfl, ⟨nd, rfl⟩⟩; (try first | exact ⟨rfl, _, World.drewN_drewN _ _ _⟩ | exact ⟨rfl, _, Eq.trans (World.drewN_drewN _ _ _) (congrArg (World.drewN _) (Nat.add_assoc _ _ _))⟩); have p190 : 0 ≤ (x10_1 : Int) := of_decide_eq_true (by first | (with_reducible assumption) | assumption); have q190 : x10_1 < (l1.length : Int) := of_decide_eq_true (by first | (with_reducible assumption) | assumption); obtain ⟨ad190, e190, hx190_0⟩ := Kd.at_int HR1.out x10_1 p190 q190; obtain rfl : ad186 = ad190 := (by injection e190); replace hx190_0 := (HB.out.cell (World.block_lt_of_cell? w _ hx190_0)).trans hx190_0; replace p190 := eq_true p190; replace q190 := eq_true q190) | (go_at_call 18; (try simp only [i64_w, i32_w]); (with_reducible refine (digit_Put.calls kj8 t187 t194 _ A27.out).mono ?_); rintro e w' ⟨rfl, ⟨nd, rfl⟩⟩; (try first | exact ⟨rfl, _, World.drewN_drewN _ _ _⟩ | exact ⟨rfl, _, Eq.trans (World.drewN_drewN _ _ _) (congrArg (World.drewN _) (Nat.add_assoc _ _ _))⟩)) | (go_at_call 18; (try simp only [i64_w, i32_w]); (with_reducible refine (digit_Put.calls kj8 t189 t195 _ A30.out).mono ?_); rintro e w' ⟨rfl, ⟨nd, rfl⟩⟩; (try first | exact ⟨rfl, _, World.drewN_drewN _ _ _⟩ | exact ⟨rfl, _, Eq.trans (World.drewN_drewN _ _ _) (congrArg (World.drewN _) (Nat.add_assoc _ _ _))⟩))); try go_wp2_with (first | (go_at_call 17; (try simp only [i64_w, i32_w]); (with_reducible refine (ammonitebook_Within.calls (rd l1 x10_1) 1 20 t187 _ A14.out).mono ?_); rintro e w' ⟨rfl, ⟨nd, rfl⟩⟩; (try first | exact ⟨rfl, _, World.drewN_drewN _ _ _⟩ | exact ⟨rfl, _, Eq.trans (World.drewN_drewN _ _ _) (congrArg (World.drewN _) (Nat.add_assoc _ _ _))⟩); have p188 : 0 ≤ (x10_1 : Int) := of_decide_eq_true (by first | (with_reducible assumption) | assumption); have q188 : x10_1 < (l1.length : Int) := of_decide_eq_true (by first | (with_reducible assumption) | assumption); obtain ⟨ad188, e188, hx188_0⟩ := Kd.at_int HR1.out x10_1 p188 q188; obtain rfl : ad186 = ad188 := (by injection e188); replace hx188_0 := (HB.out.cell (World.block_lt_of_cell? w _ hx188_0)).trans hx188_0; replace p188 := eq_true p188; replace q188 := eq_true q188) | (go_at_call 17; (try simp only [i64_w, i32_w]); (with_reducible refine (ammonitebook_Within.calls (wrap64 (Int.tdiv (rd l1 x10_1) 20)) 0 (wrap64 (((catS t185 (⟨#[115, 111, 109, 101, 32, 98, 121, 116, 101, 115, 32, 97, 116, 32, 116, 104, 101, 32, 101, 110, 100]⟩ : ByteArray)).size : Int) - t187)) t189 _ A15.out).mono ?_); rintro e w' ⟨rfl, ⟨nd, rfl⟩⟩; (try first | exact ⟨rfl, _, World.drewN_drewN _ _ _⟩ | exact ⟨rfl, _, Eq.trans (World.drewN_drewN _ _ _) (congrArg (World.drewN _) (Nat.add_assoc _ _ _))⟩); have p190 : 0 ≤ (x10_1 : Int) := of_decide_eq_true (by first | (with_reducible assumption) | assumption); have q190 : x10_1 < (l1.length : Int) := of_decide_eq_true (by first | (with_reducible assumption) | assumption); obtain ⟨ad190, e190, hx190_0⟩ := Kd.at_int HR1.out x10_1 p190 q190; obtain rfl : ad186 = ad190 := (by injection e190); replace hx190_0 := (HB.out.cell (World.block_lt_of_cell? w _ hx190_0)).trans hx190_0; replace p190 := eq_true p190; replace q190 := eq_true q190) | (go_at_call 18; (try simp only [i64_w, i32_w]); (with_reducible refine (digit_Put.calls kj8 t187 t194 _ A27.out).mono ?_); rintro e w' ⟨rfl, ⟨nd, rfl⟩⟩; (try first | exact ⟨rfl, _, World.drewN_drewN _ _ _⟩ | exact ⟨rfl, _, Eq.trans (World.drewN_drewN _ _ _) (congrArg (World.drewN _) (Nat.add_assoc _ _ _))⟩)) | (go_at_call 18; (try simp only [i64_w, i32_w]); (with_reducible refine (digit_Put.calls kj8 t189 t195 _ A30.out).mono ?_); rintro e w' ⟨rfl, ⟨nd, rfl⟩⟩; (try first | exact ⟨rfl, _, World.drewN_drewN _ _ _⟩ | exact ⟨rfl, _, Eq.trans (World.drewN_drewN _ _ _) (congrArg (World.drewN _) (Nat.add_assoc _ _ _))⟩))))
                                    go_roundg kj8
                                    case measure => have := HK1.out; have := HJ8.out; omega
                                    case rel => exact ⟨(catS x8_1 (cutS (catS t185 (⟨#[115, 111, 109, 101, 32, 98, 121, 116, 101, 115, 32, 97, 116, 32, 116, 104, 101, 32, 101, 110, 100]⟩ : ByteArray)) (t189 : Int).toNat ((wrap64 (t189 + t187)) : Int).toNat)), (catS (catS (catS (catS x9_1 t194) (⟨#[64]⟩ : ByteArray)) t195) (⟨#[44]⟩ : ByteArray)), (wrap64 (x10_1 + 1)), (by first | rfl | (simp; done) | (simp [*]; done)), (by first | rfl | (simp; done) | (simp [*]; done)), (by first | rfl | (simp; done) | (simp [*]; done)), H', ⟨by have := HK1.out; have := HJ8.out; omega⟩, ⟨by (with_reducible repeat (first | refine blk_drewN ?_ _ | refine blk_drew ?_ | refine blk_alloc ?_ _)); exact BK184.out⟩, ⟨by repeat (first | (with_reducible first | exact HB.out | apply below_alloc | apply pw_below_drewN | apply below_drew1 | refine below_set ?_ GE184.out) | exact HB.out)⟩⟩
                                    all_goals (exfalso; (try simp only [beq_iff_eq, bne_iff_ne, ne_eq, decide_eq_true_eq, decide_eq_false_iff_not, decide_eq_decide, bne_eq_false_iff_eq, beq_eq_false_iff_ne, Bool.not_eq_true, Bool.not_eq_false, Bool.not_eq_true', Bool.not_eq_false', Bool.true_beq, Bool.false_beq, Bool.true_bne, Bool.false_bne, Bool.bne_true, Bool.bne_false] at c5b0); (try simp only [beq_iff_eq, bne_iff_ne, ne_eq, decide_eq_true_eq, decide_eq_false_iff_not, decide_eq_decide, bne_eq_false_iff_eq, beq_eq_false_iff_ne, Bool.not_eq_true, Bool.not_eq_false, Bool.not_eq_true', Bool.not_eq_false', Bool.true_beq, Bool.false_beq, Bool.true_bne, Bool.false_bne, Bool.bne_true, Bool.bne_false] at c5b1); (try simp only [beq_iff_eq, bne_iff_ne, ne_eq, decide_eq_true_eq, decide_eq_false_iff_not, decide_eq_decide, bne_eq_false_iff_eq, beq_eq_false_iff_ne, Bool.not_eq_true, Bool.not_eq_false, Bool.not_eq_true', Bool.not_eq_false', Bool.true_beq, Bool.false_beq, Bool.true_bne, Bool.false_bne, Bool.bne_true, Bool.bne_false] at c12b0); (try simp only [beq_iff_eq, bne_iff_ne, ne_eq, decide_eq_true_eq, decide_eq_false_iff_not, decide_eq_decide, bne_eq_false_iff_eq, beq_eq_false_iff_ne, Bool.not_eq_true, Bool.not_eq_false, Bool.not_eq_true', Bool.not_eq_false', Bool.true_beq, Bool.false_beq, Bool.true_bne, Bool.false_bne, Bool.bne_true, Bool.bne_false] at c13b0); (try simp only [beq_iff_eq, bne_iff_ne, ne_eq, decide_eq_true_eq, decide_eq_false_iff_not, decide_eq_decide, bne_eq_false_iff_eq, beq_eq_false_iff_ne, Bool.not_eq_true, Bool.not_eq_false, Bool.not_eq_true', Bool.not_eq_false', Bool.true_beq, Bool.false_beq, Bool.true_bne, Bool.false_bne, Bool.bne_true, Bool.bne_false] at c16b0); (try simp only [beq_iff_eq, bne_iff_ne, ne_eq, decide_eq_true_eq, decide_eq_false_iff_not, decide_eq_decide, bne_eq_false_iff_eq, beq_eq_false_iff_ne, Bool.not_eq_true, Bool.not_eq_false, Bool.not_eq_true', Bool.not_eq_false', Bool.true_beq, Bool.false_beq, Bool.true_bne, Bool.false_bne, Bool.bne_true, Bool.bne_false] at c16b1); (try simp only [beq_iff_eq, bne_iff_ne, ne_eq, decide_eq_true_eq, decide_eq_false_iff_not, decide_eq_decide, bne_eq_false_iff_eq, beq_eq_false_iff_ne, Bool.not_eq_true, Bool.not_eq_false, Bool.not_eq_true', Bool.not_eq_false', Bool.true_beq, Bool.false_beq, Bool.true_bne, Bool.false_bne, Bool.bne_true, Bool.bne_false] at c23b0); (try simp only [beq_iff_eq, bne_iff_ne, ne_eq, decide_eq_true_eq, decide_eq_false_iff_not, decide_eq_decide, bne_eq_false_iff_eq, beq_eq_false_iff_ne, Bool.not_eq_true, Bool.not_eq_false, Bool.not_eq_true', Bool.not_eq_false', Bool.true_beq, Bool.false_beq, Bool.true_bne, Bool.false_bne, Bool.bne_true, Bool.bne_false] at c23b1); (try simp only [beq_iff_eq, bne_iff_ne, ne_eq, decide_eq_true_eq, decide_eq_false_iff_not, decide_eq_decide, bne_eq_false_iff_eq, beq_eq_false_iff_ne, Bool.not_eq_true, Bool.not_eq_false, Bool.not_eq_true', Bool.not_eq_false', Bool.true_beq, Bool.false_beq, Bool.true_bne, Bool.false_bne, Bool.bne_true, Bool.bne_false] at c24b0); (try simp only [beq_iff_eq, bne_iff_ne, ne_eq, decide_eq_true_eq, decide_eq_false_iff_not, decide_eq_decide, bne_eq_false_iff_eq, beq_eq_false_iff_ne, Bool.not_eq_true, Bool.not_eq_false, Bool.not_eq_true', Bool.not_eq_false', Bool.true_beq, Bool.false_beq, Bool.true_bne, Bool.false_bne, Bool.bne_true, Bool.bne_false] at c24b1); (try simp only [beq_iff_eq, bne_iff_ne, ne_eq, decide_eq_true_eq, decide_eq_false_iff_not, decide_eq_decide, bne_eq_false_iff_eq, beq_eq_false_iff_ne, Bool.not_eq_true, Bool.not_eq_false, Bool.not_eq_true', Bool.not_eq_false', Bool.true_beq, Bool.false_beq, Bool.true_bne, Bool.false_bne, Bool.bne_true, Bool.bne_false] at c24); (try simp only [beq_iff_eq, bne_iff_ne, ne_eq, decide_eq_true_eq, decide_eq_false_iff_not, decide_eq_decide, bne_eq_false_iff_eq, beq_eq_false_iff_ne, Bool.not_eq_true, Bool.not_eq_false, Bool.not_eq_true', Bool.not_eq_false', Bool.true_beq, Bool.false_beq, Bool.true_bne, Bool.false_bne, Bool.bne_true, Bool.bne_false] at c25b0); (try simp only [beq_iff_eq, bne_iff_ne, ne_eq, decide_eq_true_eq, decide_eq_false_iff_not, decide_eq_decide, bne_eq_false_iff_eq, beq_eq_false_iff_ne, Bool.not_eq_true, Bool.not_eq_false, Bool.not_eq_true', Bool.not_eq_false', Bool.true_beq, Bool.false_beq, Bool.true_bne, Bool.false_bne, Bool.bne_true, Bool.bne_false] at c25b1); (try simp only [beq_iff_eq, bne_iff_ne, ne_eq, decide_eq_true_eq, decide_eq_false_iff_not, decide_eq_decide, bne_eq_false_iff_eq, beq_eq_false_iff_ne, Bool.not_eq_true, Bool.not_eq_false, Bool.not_eq_true', Bool.not_eq_false', Bool.true_beq, Bool.false_beq, Bool.true_bne, Bool.false_bne, Bool.bne_true, Bool.bne_false] at c25); (try simp only [beq_iff_eq, bne_iff_ne, ne_eq, decide_eq_true_eq, decide_eq_false_iff_not, decide_eq_decide, bne_eq_false_iff_eq, beq_eq_false_iff_ne, Bool.not_eq_true, Bool.not_eq_false, Bool.not_eq_true', Bool.not_eq_false', Bool.true_beq, Bool.false_beq, Bool.true_bne, Bool.false_bne, Bool.bne_true, Bool.bne_false] at c26b0); (try simp only [beq_iff_eq, bne_iff_ne, ne_eq, decide_eq_true_eq, decide_eq_false_iff_not, decide_eq_decide, bne_eq_false_iff_eq, beq_eq_false_iff_ne, Bool.not_eq_true, Bool.not_eq_false, Bool.not_eq_true', Bool.not_eq_false', Bool.true_beq, Bool.false_beq, Bool.true_bne, Bool.false_bne, Bool.bne_true, Bool.bne_false] at c26b1); (try simp only [beq_iff_eq, bne_iff_ne, ne_eq, decide_eq_true_eq, decide_eq_false_iff_not, decide_eq_decide, bne_eq_false_iff_eq, beq_eq_false_iff_ne, Bool.not_eq_true, Bool.not_eq_false, Bool.not_eq_true', Bool.not_eq_false', Bool.true_beq, Bool.false_beq, Bool.true_bne, Bool.false_bne, Bool.bne_true, Bool.bne_false] at c28b0); (try simp only [beq_iff_eq, bne_iff_ne, ne_eq, decide_eq_true_eq, decide_eq_false_iff_not, decide_eq_decide, bne_eq_false_iff_eq, beq_eq_false_iff_ne, Bool.not_eq_true, Bool.not_eq_false, Bool.not_eq_true', Bool.not_eq_false', Bool.true_beq, Bool.false_beq, Bool.true_bne, Bool.false_bne, Bool.bne_true, Bool.bne_false] at c28b1); (try simp only [beq_iff_eq, bne_iff_ne, ne_eq, decide_eq_true_eq, decide_eq_false_iff_not, decide_eq_decide, bne_eq_false_iff_eq, beq_eq_false_iff_ne, Bool.not_eq_true, Bool.not_eq_false, Bool.not_eq_true', Bool.not_eq_false', Bool.true_beq, Bool.false_beq, Bool.true_bne, Bool.false_bne, Bool.bne_true, Bool.bne_false] at c29b0); (try simp only [beq_iff_eq, bne_iff_ne, ne_eq, decide_eq_true_eq, decide_eq_false_iff_not, decide_eq_decide, bne_eq_false_iff_eq, beq_eq_false_iff_ne, Bool.not_eq_true, Bool.not_eq_false, Bool.not_eq_true', Bool.not_eq_false', Bool.true_beq, Bool.false_beq, Bool.true_bne, Bool.false_bne, Bool.bne_true, Bool.bne_false] at c29b1); (try simp only [beq_iff_eq, bne_iff_ne, ne_eq, decide_eq_true_eq, decide_eq_false_iff_not, decide_eq_decide, bne_eq_false_iff_eq, beq_eq_false_iff_ne, Bool.not_eq_true, Bool.not_eq_false, Bool.not_eq_true', Bool.not_eq_false', Bool.true_beq, Bool.false_beq, Bool.true_bne, Bool.false_bne, Bool.bne_true, Bool.bne_false] at c31b0); (try simp only [beq_iff_eq, bne_iff_ne, ne_eq, decide_eq_true_eq, decide_eq_false_iff_not, decide_eq_decide, bne_eq_false_iff_eq, beq_eq_false_iff_ne, Bool.not_eq_true, Bool.not_eq_false, Bool.not_eq_true', Bool.not_eq_false', Bool.true_beq, Bool.false_beq, Bool.true_bne, Bool.false_bne, Bool.bne_true, Bool.bne_false] at c31b1); (try simp only [beq_iff_eq, bne_iff_ne, ne_eq, decide_eq_true_eq, decide_eq_false_iff_not, decide_eq_decide, bne_eq_false_iff_eq, beq_eq_false_iff_ne, Bool.not_eq_true, Bool.not_eq_false, Bool.not_eq_true', Bool.not_eq_false', Bool.true_beq, Bool.false_beq, Bool.true_bne, Bool.false_bne, Bool.bne_true, Bool.bne_false] at c32b0); (try simp only [beq_iff_eq, bne_iff_ne, ne_eq, decide_eq_true_eq, decide_eq_false_iff_not, decide_eq_decide, bne_eq_false_iff_eq, beq_eq_false_iff_ne, Bool.not_eq_true, Bool.not_eq_false, Bool.not_eq_true', Bool.not_eq_false', Bool.true_beq, Bool.false_beq, Bool.true_bne, Bool.false_bne, Bool.bne_true, Bool.bne_false] at c32b1); (try unfold wrap64 at *); omega)
                                  · rw [if_neg c32] at H
                                    exact absurd H (by simp)
                                · rw [if_neg c31] at H
                                  exact absurd H (by simp)
                              · rw [if_neg c29] at H
                                exact absurd H (by simp)
                            · rw [if_neg c28] at H
                              exact absurd H (by simp)
                          · rw [if_neg c26] at H
                            exact absurd H (by simp)
                        · rw [if_neg c25] at H
                          exact absurd H (by simp)
                      · rw [if_neg c24] at H
                        exact absurd H (by simp)
                    · rw [if_neg c23] at H
                      exact absurd H (by simp)
                · rw [if_neg c13] at H
                  exact absurd H (by simp)
              · rw [if_neg c12] at H
                exact absurd H (by simp)
            · replace c11 := Bool.eq_false_iff.mpr c11
              subst c11
              have H1 : ((digit_Put.f kj8 (x8_1.size : Int)).bind fun t196 => (if t196.size + 1 ≤ 9223372036854775807 then (if (catS t196 (⟨#[10]⟩ : ByteArray)).size + x9_1.size ≤ 9223372036854775807 then ((delta_Check.f kj8 x8_1).bind fun t197 => ((digit_Put.f kj8 t197).bind fun t198 => (if (catS (catS t196 (⟨#[10]⟩ : ByteArray)) x9_1).size + t198.size ≤ 9223372036854775807 then (if (catS (catS (catS t196 (⟨#[10]⟩ : ByteArray)) x9_1) t198).size + 1 ≤ 9223372036854775807 then ((delta_Apply.f kj8 (catS t185 (⟨#[115, 111, 109, 101, 32, 98, 121, 116, 101, 115, 32, 97, 116, 32, 116, 104, 101, 32, 101, 110, 100]⟩ : ByteArray)) (catS (catS (catS (catS t196 (⟨#[10]⟩ : ByteArray)) x9_1) t198) (⟨#[59]⟩ : ByteArray))).bind fun bt199 => (if (catS t185 (⟨#[115, 111, 109, 101, 32, 98, 121, 116, 101, 115, 32, 97, 116, 32, 116, 104, 101, 32, 101, 110, 100]⟩ : ByteArray)).size + 14 ≤ 9223372036854775807 then ((delta_Apply.f kj8 (catS (catS t185 (⟨#[115, 111, 109, 101, 32, 98, 121, 116, 101, 115, 32, 97, 116, 32, 116, 104, 101, 32, 101, 110, 100]⟩ : ByteArray)) (⟨#[109, 111, 114, 101, 32, 98, 101, 104, 105, 110, 100, 32, 105, 116]⟩ : ByteArray)) (catS (catS (catS (catS t196 (⟨#[10]⟩ : ByteArray)) x9_1) t198) (⟨#[59]⟩ : ByteArray))).bind fun bt201 => (if (catS (catS (catS (catS t196 (⟨#[10]⟩ : ByteArray)) x9_1) t198) (⟨#[59]⟩ : ByteArray)).size + 1 ≤ 9223372036854775807 then ((delta_Apply.f kj8 (catS t185 (⟨#[115, 111, 109, 101, 32, 98, 121, 116, 101, 115, 32, 97, 116, 32, 116, 104, 101, 32, 101, 110, 100]⟩ : ByteArray)) (catS (catS (catS (catS (catS t196 (⟨#[10]⟩ : ByteArray)) x9_1) t198) (⟨#[59]⟩ : ByteArray)) (⟨#[59]⟩ : ByteArray))).bind fun bt203 => (if 1 + (catS (catS (catS (catS t196 (⟨#[10]⟩ : ByteArray)) x9_1) t198) (⟨#[59]⟩ : ByteArray)).size ≤ 9223372036854775807 then ((delta_Apply.f kj8 (catS t185 (⟨#[115, 111, 109, 101, 32, 98, 121, 116, 101, 115, 32, 97, 116, 32, 116, 104, 101, 32, 101, 110, 100]⟩ : ByteArray)) (catS (⟨#[49]⟩ : ByteArray) (catS (catS (catS (catS t196 (⟨#[10]⟩ : ByteArray)) x9_1) t198) (⟨#[59]⟩ : ByteArray)))).bind fun bt205 => (if bt199.2 = true then (if bt199.1.toList = x8_1.toList then (if bt201.2 = true then (if bt201.1.toList = x8_1.toList then (if bt203.2 = true then (some false) else (if bt205.2 = true then (some false) else ((ammonitelaw3_DeltaRuns.f kj8).bind fun t207 => (some t207)))) else (some false)) else (some false)) else (some false)) else (some false))) else (none))) else (none))) else (none))) else (none)) else (none)))) else (none)) else (none))) = some r := by rw [if_neg (show ¬ (false = true) by decide)] at H; exact H
              clear H
              have H := H1
              clear H1
              replace H := Option.bind_eq_some_iff.mp H
              obtain ⟨t196, A330, H⟩ := H
              replace H : (if t196.size + 1 ≤ 9223372036854775807 then (if (catS t196 (⟨#[10]⟩ : ByteArray)).size + x9_1.size ≤ 9223372036854775807 then ((delta_Check.f kj8 x8_1).bind fun t197 => ((digit_Put.f kj8 t197).bind fun t198 => (if (catS (catS t196 (⟨#[10]⟩ : ByteArray)) x9_1).size + t198.size ≤ 9223372036854775807 then (if (catS (catS (catS t196 (⟨#[10]⟩ : ByteArray)) x9_1) t198).size + 1 ≤ 9223372036854775807 then ((delta_Apply.f kj8 (catS t185 (⟨#[115, 111, 109, 101, 32, 98, 121, 116, 101, 115, 32, 97, 116, 32, 116, 104, 101, 32, 101, 110, 100]⟩ : ByteArray)) (catS (catS (catS (catS t196 (⟨#[10]⟩ : ByteArray)) x9_1) t198) (⟨#[59]⟩ : ByteArray))).bind fun bt199 => (if (catS t185 (⟨#[115, 111, 109, 101, 32, 98, 121, 116, 101, 115, 32, 97, 116, 32, 116, 104, 101, 32, 101, 110, 100]⟩ : ByteArray)).size + 14 ≤ 9223372036854775807 then ((delta_Apply.f kj8 (catS (catS t185 (⟨#[115, 111, 109, 101, 32, 98, 121, 116, 101, 115, 32, 97, 116, 32, 116, 104, 101, 32, 101, 110, 100]⟩ : ByteArray)) (⟨#[109, 111, 114, 101, 32, 98, 101, 104, 105, 110, 100, 32, 105, 116]⟩ : ByteArray)) (catS (catS (catS (catS t196 (⟨#[10]⟩ : ByteArray)) x9_1) t198) (⟨#[59]⟩ : ByteArray))).bind fun bt201 => (if (catS (catS (catS (catS t196 (⟨#[10]⟩ : ByteArray)) x9_1) t198) (⟨#[59]⟩ : ByteArray)).size + 1 ≤ 9223372036854775807 then ((delta_Apply.f kj8 (catS t185 (⟨#[115, 111, 109, 101, 32, 98, 121, 116, 101, 115, 32, 97, 116, 32, 116, 104, 101, 32, 101, 110, 100]⟩ : ByteArray)) (catS (catS (catS (catS (catS t196 (⟨#[10]⟩ : ByteArray)) x9_1) t198) (⟨#[59]⟩ : ByteArray)) (⟨#[59]⟩ : ByteArray))).bind fun bt203 => (if 1 + (catS (catS (catS (catS t196 (⟨#[10]⟩ : ByteArray)) x9_1) t198) (⟨#[59]⟩ : ByteArray)).size ≤ 9223372036854775807 then ((delta_Apply.f kj8 (catS t185 (⟨#[115, 111, 109, 101, 32, 98, 121, 116, 101, 115, 32, 97, 116, 32, 116, 104, 101, 32, 101, 110, 100]⟩ : ByteArray)) (catS (⟨#[49]⟩ : ByteArray) (catS (catS (catS (catS t196 (⟨#[10]⟩ : ByteArray)) x9_1) t198) (⟨#[59]⟩ : ByteArray)))).bind fun bt205 => (if bt199.2 = true then (if bt199.1.toList = x8_1.toList then (if bt201.2 = true then (if bt201.1.toList = x8_1.toList then (if bt203.2 = true then (some false) else (if bt205.2 = true then (some false) else ((ammonitelaw3_DeltaRuns.f kj8).bind fun t207 => (some t207)))) else (some false)) else (some false)) else (some false)) else (some false))) else (none))) else (none))) else (none))) else (none)) else (none)))) else (none)) else (none)) = some r := H
              have A33 := Aside0.mk A330
              clear A330
              by_cases c34 : t196.size + 1 ≤ 9223372036854775807
              · rw [if_pos c34] at H
                have c34b0 := eq_true c34
                have c34b1 : decide (t196.size + 1 ≤ 9223372036854775807) = true := decide_eq_true c34
                try have c34b2 : (9223372036854775807 < t196.size + 1) = False := eq_false (Nat.not_lt.2 c34)
                clear c34
                by_cases c35 : (catS t196 (⟨#[10]⟩ : ByteArray)).size + x9_1.size ≤ 9223372036854775807
                · rw [if_pos c35] at H
                  have c35b0 := eq_true c35
                  have c35b1 : decide ((catS t196 (⟨#[10]⟩ : ByteArray)).size + x9_1.size ≤ 9223372036854775807) = true := decide_eq_true c35
                  try have c35b2 : (9223372036854775807 < (catS t196 (⟨#[10]⟩ : ByteArray)).size + x9_1.size) = False := eq_false (Nat.not_lt.2 c35)
                  clear c35
                  replace H := Option.bind_eq_some_iff.mp H
                  obtain ⟨t197, A360, H⟩ := H
                  replace H : ((digit_Put.f kj8 t197).bind fun t198 => (if (catS (catS t196 (⟨#[10]⟩ : ByteArray)) x9_1).size + t198.size ≤ 9223372036854775807 then (if (catS (catS (catS t196 (⟨#[10]⟩ : ByteArray)) x9_1) t198).size + 1 ≤ 9223372036854775807 then ((delta_Apply.f kj8 (catS t185 (⟨#[115, 111, 109, 101, 32, 98, 121, 116, 101, 115, 32, 97, 116, 32, 116, 104, 101, 32, 101, 110, 100]⟩ : ByteArray)) (catS (catS (catS (catS t196 (⟨#[10]⟩ : ByteArray)) x9_1) t198) (⟨#[59]⟩ : ByteArray))).bind fun bt199 => (if (catS t185 (⟨#[115, 111, 109, 101, 32, 98, 121, 116, 101, 115, 32, 97, 116, 32, 116, 104, 101, 32, 101, 110, 100]⟩ : ByteArray)).size + 14 ≤ 9223372036854775807 then ((delta_Apply.f kj8 (catS (catS t185 (⟨#[115, 111, 109, 101, 32, 98, 121, 116, 101, 115, 32, 97, 116, 32, 116, 104, 101, 32, 101, 110, 100]⟩ : ByteArray)) (⟨#[109, 111, 114, 101, 32, 98, 101, 104, 105, 110, 100, 32, 105, 116]⟩ : ByteArray)) (catS (catS (catS (catS t196 (⟨#[10]⟩ : ByteArray)) x9_1) t198) (⟨#[59]⟩ : ByteArray))).bind fun bt201 => (if (catS (catS (catS (catS t196 (⟨#[10]⟩ : ByteArray)) x9_1) t198) (⟨#[59]⟩ : ByteArray)).size + 1 ≤ 9223372036854775807 then ((delta_Apply.f kj8 (catS t185 (⟨#[115, 111, 109, 101, 32, 98, 121, 116, 101, 115, 32, 97, 116, 32, 116, 104, 101, 32, 101, 110, 100]⟩ : ByteArray)) (catS (catS (catS (catS (catS t196 (⟨#[10]⟩ : ByteArray)) x9_1) t198) (⟨#[59]⟩ : ByteArray)) (⟨#[59]⟩ : ByteArray))).bind fun bt203 => (if 1 + (catS (catS (catS (catS t196 (⟨#[10]⟩ : ByteArray)) x9_1) t198) (⟨#[59]⟩ : ByteArray)).size ≤ 9223372036854775807 then ((delta_Apply.f kj8 (catS t185 (⟨#[115, 111, 109, 101, 32, 98, 121, 116, 101, 115, 32, 97, 116, 32, 116, 104, 101, 32, 101, 110, 100]⟩ : ByteArray)) (catS (⟨#[49]⟩ : ByteArray) (catS (catS (catS (catS t196 (⟨#[10]⟩ : ByteArray)) x9_1) t198) (⟨#[59]⟩ : ByteArray)))).bind fun bt205 => (if bt199.2 = true then (if bt199.1.toList = x8_1.toList then (if bt201.2 = true then (if bt201.1.toList = x8_1.toList then (if bt203.2 = true then (some false) else (if bt205.2 = true then (some false) else ((ammonitelaw3_DeltaRuns.f kj8).bind fun t207 => (some t207)))) else (some false)) else (some false)) else (some false)) else (some false))) else (none))) else (none))) else (none))) else (none)) else (none))) = some r := H
                  have A36 := Aside0.mk A360
                  clear A360
                  replace H := Option.bind_eq_some_iff.mp H
                  obtain ⟨t198, A370, H⟩ := H
                  replace H : (if (catS (catS t196 (⟨#[10]⟩ : ByteArray)) x9_1).size + t198.size ≤ 9223372036854775807 then (if (catS (catS (catS t196 (⟨#[10]⟩ : ByteArray)) x9_1) t198).size + 1 ≤ 9223372036854775807 then ((delta_Apply.f kj8 (catS t185 (⟨#[115, 111, 109, 101, 32, 98, 121, 116, 101, 115, 32, 97, 116, 32, 116, 104, 101, 32, 101, 110, 100]⟩ : ByteArray)) (catS (catS (catS (catS t196 (⟨#[10]⟩ : ByteArray)) x9_1) t198) (⟨#[59]⟩ : ByteArray))).bind fun bt199 => (if (catS t185 (⟨#[115, 111, 109, 101, 32, 98, 121, 116, 101, 115, 32, 97, 116, 32, 116, 104, 101, 32, 101, 110, 100]⟩ : ByteArray)).size + 14 ≤ 9223372036854775807 then ((delta_Apply.f kj8 (catS (catS t185 (⟨#[115, 111, 109, 101, 32, 98, 121, 116, 101, 115, 32, 97, 116, 32, 116, 104, 101, 32, 101, 110, 100]⟩ : ByteArray)) (⟨#[109, 111, 114, 101, 32, 98, 101, 104, 105, 110, 100, 32, 105, 116]⟩ : ByteArray)) (catS (catS (catS (catS t196 (⟨#[10]⟩ : ByteArray)) x9_1) t198) (⟨#[59]⟩ : ByteArray))).bind fun bt201 => (if (catS (catS (catS (catS t196 (⟨#[10]⟩ : ByteArray)) x9_1) t198) (⟨#[59]⟩ : ByteArray)).size + 1 ≤ 9223372036854775807 then ((delta_Apply.f kj8 (catS t185 (⟨#[115, 111, 109, 101, 32, 98, 121, 116, 101, 115, 32, 97, 116, 32, 116, 104, 101, 32, 101, 110, 100]⟩ : ByteArray)) (catS (catS (catS (catS (catS t196 (⟨#[10]⟩ : ByteArray)) x9_1) t198) (⟨#[59]⟩ : ByteArray)) (⟨#[59]⟩ : ByteArray))).bind fun bt203 => (if 1 + (catS (catS (catS (catS t196 (⟨#[10]⟩ : ByteArray)) x9_1) t198) (⟨#[59]⟩ : ByteArray)).size ≤ 9223372036854775807 then ((delta_Apply.f kj8 (catS t185 (⟨#[115, 111, 109, 101, 32, 98, 121, 116, 101, 115, 32, 97, 116, 32, 116, 104, 101, 32, 101, 110, 100]⟩ : ByteArray)) (catS (⟨#[49]⟩ : ByteArray) (catS (catS (catS (catS t196 (⟨#[10]⟩ : ByteArray)) x9_1) t198) (⟨#[59]⟩ : ByteArray)))).bind fun bt205 => (if bt199.2 = true then (if bt199.1.toList = x8_1.toList then (if bt201.2 = true then (if bt201.1.toList = x8_1.toList then (if bt203.2 = true then (some false) else (if bt205.2 = true then (some false) else ((ammonitelaw3_DeltaRuns.f kj8).bind fun t207 => (some t207)))) else (some false)) else (some false)) else (some false)) else (some false))) else (none))) else (none))) else (none))) else (none)) else (none)) = some r := H
                  have A37 := Aside0.mk A370
                  clear A370
                  by_cases c38 : (catS (catS t196 (⟨#[10]⟩ : ByteArray)) x9_1).size + t198.size ≤ 9223372036854775807
                  · rw [if_pos c38] at H
                    have c38b0 := eq_true c38
                    have c38b1 : decide ((catS (catS t196 (⟨#[10]⟩ : ByteArray)) x9_1).size + t198.size ≤ 9223372036854775807) = true := decide_eq_true c38
                    try have c38b2 : (9223372036854775807 < (catS (catS t196 (⟨#[10]⟩ : ByteArray)) x9_1).size + t198.size) = False := eq_false (Nat.not_lt.2 c38)
                    clear c38
                    by_cases c39 : (catS (catS (catS t196 (⟨#[10]⟩ : ByteArray)) x9_1) t198).size + 1 ≤ 9223372036854775807
                    · rw [if_pos c39] at H
                      have c39b0 := eq_true c39
                      have c39b1 : decide ((catS (catS (catS t196 (⟨#[10]⟩ : ByteArray)) x9_1) t198).size + 1 ≤ 9223372036854775807) = true := decide_eq_true c39
                      try have c39b2 : (9223372036854775807 < (catS (catS (catS t196 (⟨#[10]⟩ : ByteArray)) x9_1) t198).size + 1) = False := eq_false (Nat.not_lt.2 c39)
                      clear c39
                      replace H := Option.bind_eq_some_iff.mp H
                      obtain ⟨⟨t199, t200⟩, A400, H⟩ := H
                      replace H : (if (catS t185 (⟨#[115, 111, 109, 101, 32, 98, 121, 116, 101, 115, 32, 97, 116, 32, 116, 104, 101, 32, 101, 110, 100]⟩ : ByteArray)).size + 14 ≤ 9223372036854775807 then ((delta_Apply.f kj8 (catS (catS t185 (⟨#[115, 111, 109, 101, 32, 98, 121, 116, 101, 115, 32, 97, 116, 32, 116, 104, 101, 32, 101, 110, 100]⟩ : ByteArray)) (⟨#[109, 111, 114, 101, 32, 98, 101, 104, 105, 110, 100, 32, 105, 116]⟩ : ByteArray)) (catS (catS (catS (catS t196 (⟨#[10]⟩ : ByteArray)) x9_1) t198) (⟨#[59]⟩ : ByteArray))).bind fun bt201 => (if (catS (catS (catS (catS t196 (⟨#[10]⟩ : ByteArray)) x9_1) t198) (⟨#[59]⟩ : ByteArray)).size + 1 ≤ 9223372036854775807 then ((delta_Apply.f kj8 (catS t185 (⟨#[115, 111, 109, 101, 32, 98, 121, 116, 101, 115, 32, 97, 116, 32, 116, 104, 101, 32, 101, 110, 100]⟩ : ByteArray)) (catS (catS (catS (catS (catS t196 (⟨#[10]⟩ : ByteArray)) x9_1) t198) (⟨#[59]⟩ : ByteArray)) (⟨#[59]⟩ : ByteArray))).bind fun bt203 => (if 1 + (catS (catS (catS (catS t196 (⟨#[10]⟩ : ByteArray)) x9_1) t198) (⟨#[59]⟩ : ByteArray)).size ≤ 9223372036854775807 then ((delta_Apply.f kj8 (catS t185 (⟨#[115, 111, 109, 101, 32, 98, 121, 116, 101, 115, 32, 97, 116, 32, 116, 104, 101, 32, 101, 110, 100]⟩ : ByteArray)) (catS (⟨#[49]⟩ : ByteArray) (catS (catS (catS (catS t196 (⟨#[10]⟩ : ByteArray)) x9_1) t198) (⟨#[59]⟩ : ByteArray)))).bind fun bt205 => (if t200 = true then (if t199.toList = x8_1.toList then (if bt201.2 = true then (if bt201.1.toList = x8_1.toList then (if bt203.2 = true then (some false) else (if bt205.2 = true then (some false) else ((ammonitelaw3_DeltaRuns.f kj8).bind fun t207 => (some t207)))) else (some false)) else (some false)) else (some false)) else (some false))) else (none))) else (none))) else (none)) = some r := H
                      have A40 := Aside0.mk A400
                      clear A400
                      by_cases c41 : (catS t185 (⟨#[115, 111, 109, 101, 32, 98, 121, 116, 101, 115, 32, 97, 116, 32, 116, 104, 101, 32, 101, 110, 100]⟩ : ByteArray)).size + 14 ≤ 9223372036854775807
                      · rw [if_pos c41] at H
                        have c41b0 := eq_true c41
                        have c41b1 : decide ((catS t185 (⟨#[115, 111, 109, 101, 32, 98, 121, 116, 101, 115, 32, 97, 116, 32, 116, 104, 101, 32, 101, 110, 100]⟩ : ByteArray)).size + 14 ≤ 9223372036854775807) = true := decide_eq_true c41
                        try have c41b2 : (9223372036854775807 < (catS t185 (⟨#[115, 111, 109, 101, 32, 98, 121, 116, 101, 115, 32, 97, 116, 32, 116, 104, 101, 32, 101, 110, 100]⟩ : ByteArray)).size + 14) = False := eq_false (Nat.not_lt.2 c41)
                        clear c41
                        replace H := Option.bind_eq_some_iff.mp H
                        obtain ⟨⟨t201, t202⟩, A420, H⟩ := H
                        replace H : (if (catS (catS (catS (catS t196 (⟨#[10]⟩ : ByteArray)) x9_1) t198) (⟨#[59]⟩ : ByteArray)).size + 1 ≤ 9223372036854775807 then ((delta_Apply.f kj8 (catS t185 (⟨#[115, 111, 109, 101, 32, 98, 121, 116, 101, 115, 32, 97, 116, 32, 116, 104, 101, 32, 101, 110, 100]⟩ : ByteArray)) (catS (catS (catS (catS (catS t196 (⟨#[10]⟩ : ByteArray)) x9_1) t198) (⟨#[59]⟩ : ByteArray)) (⟨#[59]⟩ : ByteArray))).bind fun bt203 => (if 1 + (catS (catS (catS (catS t196 (⟨#[10]⟩ : ByteArray)) x9_1) t198) (⟨#[59]⟩ : ByteArray)).size ≤ 9223372036854775807 then ((delta_Apply.f kj8 (catS t185 (⟨#[115, 111, 109, 101, 32, 98, 121, 116, 101, 115, 32, 97, 116, 32, 116, 104, 101, 32, 101, 110, 100]⟩ : ByteArray)) (catS (⟨#[49]⟩ : ByteArray) (catS (catS (catS (catS t196 (⟨#[10]⟩ : ByteArray)) x9_1) t198) (⟨#[59]⟩ : ByteArray)))).bind fun bt205 => (if t200 = true then (if t199.toList = x8_1.toList then (if t202 = true then (if t201.toList = x8_1.toList then (if bt203.2 = true then (some false) else (if bt205.2 = true then (some false) else ((ammonitelaw3_DeltaRuns.f kj8).bind fun t207 => (some t207)))) else (some false)) else (some false)) else (some false)) else (some false))) else (none))) else (none)) = some r := H
                        have A42 := Aside0.mk A420
                        clear A420
                        by_cases c43 : (catS (catS (catS (catS t196 (⟨#[10]⟩ : ByteArray)) x9_1) t198) (⟨#[59]⟩ : ByteArray)).size + 1 ≤ 9223372036854775807
                        · rw [if_pos c43] at H
                          have c43b0 := eq_true c43
                          have c43b1 : decide ((catS (catS (catS (catS t196 (⟨#[10]⟩ : ByteArray)) x9_1) t198) (⟨#[59]⟩ : ByteArray)).size + 1 ≤ 9223372036854775807) = true := decide_eq_true c43
                          try have c43b2 : (9223372036854775807 < (catS (catS (catS (catS t196 (⟨#[10]⟩ : ByteArray)) x9_1) t198) (⟨#[59]⟩ : ByteArray)).size + 1) = False := eq_false (Nat.not_lt.2 c43)
                          clear c43
                          replace H := Option.bind_eq_some_iff.mp H
                          obtain ⟨⟨t203, t204⟩, A440, H⟩ := H
                          replace H : (if 1 + (catS (catS (catS (catS t196 (⟨#[10]⟩ : ByteArray)) x9_1) t198) (⟨#[59]⟩ : ByteArray)).size ≤ 9223372036854775807 then ((delta_Apply.f kj8 (catS t185 (⟨#[115, 111, 109, 101, 32, 98, 121, 116, 101, 115, 32, 97, 116, 32, 116, 104, 101, 32, 101, 110, 100]⟩ : ByteArray)) (catS (⟨#[49]⟩ : ByteArray) (catS (catS (catS (catS t196 (⟨#[10]⟩ : ByteArray)) x9_1) t198) (⟨#[59]⟩ : ByteArray)))).bind fun bt205 => (if t200 = true then (if t199.toList = x8_1.toList then (if t202 = true then (if t201.toList = x8_1.toList then (if t204 = true then (some false) else (if bt205.2 = true then (some false) else ((ammonitelaw3_DeltaRuns.f kj8).bind fun t207 => (some t207)))) else (some false)) else (some false)) else (some false)) else (some false))) else (none)) = some r := H
                          have A44 := Aside0.mk A440
                          clear A440
                          by_cases c45 : 1 + (catS (catS (catS (catS t196 (⟨#[10]⟩ : ByteArray)) x9_1) t198) (⟨#[59]⟩ : ByteArray)).size ≤ 9223372036854775807
                          · rw [if_pos c45] at H
                            have c45b0 := eq_true c45
                            have c45b1 : decide (1 + (catS (catS (catS (catS t196 (⟨#[10]⟩ : ByteArray)) x9_1) t198) (⟨#[59]⟩ : ByteArray)).size ≤ 9223372036854775807) = true := decide_eq_true c45
                            try have c45b2 : (9223372036854775807 < 1 + (catS (catS (catS (catS t196 (⟨#[10]⟩ : ByteArray)) x9_1) t198) (⟨#[59]⟩ : ByteArray)).size) = False := eq_false (Nat.not_lt.2 c45)
                            clear c45
                            replace H := Option.bind_eq_some_iff.mp H
                            obtain ⟨⟨t205, t206⟩, A460, H⟩ := H
                            replace H : (if t200 = true then (if t199.toList = x8_1.toList then (if t202 = true then (if t201.toList = x8_1.toList then (if t204 = true then (some false) else (if t206 = true then (some false) else ((ammonitelaw3_DeltaRuns.f kj8).bind fun t207 => (some t207)))) else (some false)) else (some false)) else (some false)) else (some false)) = some r := H
                            have A46 := Aside0.mk A460
                            clear A460
                            by_cases c47 : t200 = true
                            · subst c47
                              have H1 : (if t199.toList = x8_1.toList then (if t202 = true then (if t201.toList = x8_1.toList then (if t204 = true then (some false) else (if t206 = true then (some false) else ((ammonitelaw3_DeltaRuns.f kj8).bind fun t207 => (some t207)))) else (some false)) else (some false)) else (some false)) = some r := by rw [if_pos rfl] at H; exact H
                              clear H
                              have H := H1
                              clear H1
                              by_cases c48 : t199.toList = x8_1.toList
                              · rw [if_pos c48] at H
                                have c48b0 : (t199.toList == x8_1.toList) = true := beq_iff_eq.mpr c48
                                have c48b1 : (t199.toList != x8_1.toList) = false := bne_eq_false_iff_eq.mpr c48
                                clear c48
                                by_cases c49 : t202 = true
                                · subst c49
                                  have H1 : (if t201.toList = x8_1.toList then (if t204 = true then (some false) else (if t206 = true then (some false) else ((ammonitelaw3_DeltaRuns.f kj8).bind fun t207 => (some t207)))) else (some false)) = some r := by rw [if_pos rfl] at H; exact H
                                  clear H
                                  have H := H1
                                  clear H1
                                  by_cases c50 : t201.toList = x8_1.toList
                                  · rw [if_pos c50] at H
                                    have c50b0 : (t201.toList == x8_1.toList) = true := beq_iff_eq.mpr c50
                                    have c50b1 : (t201.toList != x8_1.toList) = false := bne_eq_false_iff_eq.mpr c50
                                    clear c50
                                    by_cases c51 : t204 = true
                                    · subst c51
                                      have H1 : (some false) = some r := by rw [if_pos rfl] at H; exact H
                                      clear H
                                      have H := H1
                                      clear H1
                                      exact absurd ((Option.some.inj H).trans HRT.out) Bool.false_ne_true
                                    · replace c51 := Bool.eq_false_iff.mpr c51
                                      subst c51
                                      have H1 : (if t206 = true then (some false) else ((ammonitelaw3_DeltaRuns.f kj8).bind fun t207 => (some t207))) = some r := by rw [if_neg (show ¬ (false = true) by decide)] at H; exact H
                                      clear H
                                      have H := H1
                                      clear H1
                                      by_cases c52 : t206 = true
                                      · subst c52
                                        have H1 : (some false) = some r := by rw [if_pos rfl] at H; exact H
                                        clear H
                                        have H := H1
                                        clear H1
                                        exact absurd ((Option.some.inj H).trans HRT.out) Bool.false_ne_true
                                      · replace c52 := Bool.eq_false_iff.mpr c52
                                        subst c52
                                        have H1 : ((ammonitelaw3_DeltaRuns.f kj8).bind fun t207 => (some t207)) = some r := by rw [if_neg (show ¬ (false = true) by decide)] at H; exact H
                                        clear H
                                        have H := H1
                                        clear H1
                                        replace H := Option.bind_eq_some_iff.mp H
                                        obtain ⟨t207, A530, H⟩ := H
                                        replace H : (some t207) = some r := H
                                        have A53 := Aside0.mk A530
                                        clear A530
                                        obtain rfl := Option.some.inj H
                                        go_wp2_with (first | (go_at_call 18; (try simp only [i64_w, i32_w]); (with_reducible refine (digit_Put.calls kj8 (x8_1.size : Int) t196 _ A33.out).mono ?_); rintro e w' ⟨rfl, ⟨nd, rfl⟩⟩; (try first | exact ⟨rfl, _, World.drewN_drewN _ _ _⟩ | exact ⟨rfl, _, Eq.trans (World.drewN_drewN _ _ _) (congrArg (World.drewN _) (Nat.add_assoc _ _ _))⟩)) | (go_at_call 19; (try simp only [i64_w, i32_w]); (with_reducible refine (delta_Check.calls kj8 x8_1 t197 _ A36.out).mono ?_); rintro e w' ⟨rfl, ⟨nd, rfl⟩⟩; (try first | exact ⟨rfl, _, World.drewN_drewN _ _ _⟩ | exact ⟨rfl, _, Eq.trans (World.drewN_drewN _ _ _) (congrArg (World.drewN _) (Nat.add_assoc _ _ _))⟩)) | (go_at_call 18; (try simp only [i64_w, i32_w]); (with_reducible refine (digit_Put.calls kj8 t197 t198 _ A37.out).mono ?_); rintro e w' ⟨rfl, ⟨nd, rfl⟩⟩; (try first | exact ⟨rfl, _, World.drewN_drewN _ _ _⟩ | exact ⟨rfl, _, Eq.trans (World.drewN_drewN _ _ _) (congrArg (World.drewN _) (Nat.add_assoc _ _ _))⟩)) | (go_at_call 20; (try simp only [i64_w, i32_w]); (with_reducible refine (delta_Apply.calls kj8 (catS t185 (⟨#[115, 111, 109, 101, 32, 98, 121, 116, 101, 115, 32, 97, 116, 32, 116, 104, 101, 32, 101, 110, 100]⟩ : ByteArray)) (catS (catS (catS (catS t196 (⟨#[10]⟩ : ByteArray)) x9_1) t198) (⟨#[59]⟩ : ByteArray)) t199 true _ A40.out).mono ?_); rintro e w' ⟨rfl, ⟨nd, rfl⟩⟩; (try first | exact ⟨rfl, _, World.drewN_drewN _ _ _⟩ | exact ⟨rfl, _, Eq.trans (World.drewN_drewN _ _ _) (congrArg (World.drewN _) (Nat.add_assoc _ _ _))⟩)) | (go_at_call 20; (try simp only [i64_w, i32_w]); (with_reducible refine (delta_Apply.calls kj8 (catS (catS t185 (⟨#[115, 111, 109, 101, 32, 98, 121, 116, 101, 115, 32, 97, 116, 32, 116, 104, 101, 32, 101, 110, 100]⟩ : ByteArray)) (⟨#[109, 111, 114, 101, 32, 98, 101, 104, 105, 110, 100, 32, 105, 116]⟩ : ByteArray)) (catS (catS (catS (catS t196 (⟨#[10]⟩ : ByteArray)) x9_1) t198) (⟨#[59]⟩ : ByteArray)) t201 true _ A42.out).mono ?_); rintro e w' ⟨rfl, ⟨nd, rfl⟩⟩; (try first | exact ⟨rfl, _, World.drewN_drewN _ _ _⟩ | exact ⟨rfl, _, Eq.trans (World.drewN_drewN _ _ _) (congrArg (World.drewN _) (Nat.add_assoc _ _ _))⟩)) | (go_at_call 20; (try simp only [i64_w, i32_w]); (with_reducible refine (delta_Apply.calls kj8 (catS t185 (⟨#[115, 111, 109, 101, 32, 98, 121, 116, 101, 115, 32, 97, 116, 32, 116, 104, 101, 32, 101, 110, 100]⟩ : ByteArray)) (catS (catS (catS (catS (catS t196 (⟨#[10]⟩ : ByteArray)) x9_1) t198) (⟨#[59]⟩ : ByteArray)) (⟨#[59]⟩ : ByteArray)) t203 false _ A44.out).mono ?_); rintro e w' ⟨rfl, ⟨nd, rfl⟩⟩; (try first | exact ⟨rfl, _, World.drewN_drewN _ _ _⟩ | exact ⟨rfl, _, Eq.trans (World.drewN_drewN _ _ _) (congrArg (World.drewN _) (Nat.add_assoc _ _ _))⟩)) | (go_at_call 20; (try simp only [i64_w, i32_w]); (with_reducible refine (delta_Apply.calls kj8 (catS t185 (⟨#[115, 111, 109, 101, 32, 98, 121, 116, 101, 115, 32, 97, 116, 32, 116, 104, 101, 32, 101, 110, 100]⟩ : ByteArray)) (catS (⟨#[49]⟩ : ByteArray) (catS (catS (catS (catS t196 (⟨#[10]⟩ : ByteArray)) x9_1) t198) (⟨#[59]⟩ : ByteArray))) t205 false _ A46.out).mono ?_); rintro e w' ⟨rfl, ⟨nd, rfl⟩⟩; (try first | exact ⟨rfl, _, World.drewN_drewN _ _ _⟩ | exact ⟨rfl, _, Eq.trans (World.drewN_drewN _ _ _) (congrArg (World.drewN _) (Nat.add_assoc _ _ _))⟩)) | (go_at_call 6; (try simp only [i64_w, i32_w]); (with_reducible refine (ammonitelaw3_DeltaRuns.calls kj8  t207 _ A53.out).mono ?_); rintro e w' ⟨rfl, ⟨nd, rfl⟩⟩; (try first | exact ⟨rfl, _, World.drewN_drewN _ _ _⟩ | exact ⟨rfl, _, Eq.trans (World.drewN_drewN _ _ _) (congrArg (World.drewN _) (Nat.add_assoc _ _ _))⟩)))
                                        repeat (go_quiet (first | (go_at_call 18; (try simp only [i64_w, i32_w]); (with_reducible refine (digit_Put.calls kj8 (x8_1.size : Int) t196 _ A33.out).mono ?_); rintro e w' ⟨rfl, ⟨nd, rfl⟩⟩; (try first | exact ⟨rfl, _, World.drewN_drewN _ _ _⟩ | exact ⟨rfl, _, Eq.trans (World.drewN_drewN _ _ _) (congrArg (World.drewN _) (Nat.add_assoc _ _ _))⟩)) | (go_at_call 19; (try simp only [i64_w, i32_w]); (with_reducible refine (delta_Check.calls kj8 x8_1 t197 _ A36.out).mono ?_); rintro e w' ⟨rfl, ⟨nd, rfl⟩⟩; (try first | exact ⟨rfl, _, World.drewN_drewN _ _ _⟩ | exact ⟨rfl, _, Eq.trans (World.drewN_drewN _ _ _) (congrArg (World.drewN _) (Nat.add_assoc _ _ _))⟩)) | (go_at_call 18; (try simp only [i64_w, i32_w]); (with_reducible refine (digit_Put.calls kj8 t197 t198 _ A37.out).mono ?_); rintro e w' ⟨rfl, ⟨nd, rfl⟩⟩; (try first | exact ⟨rfl, _, World.drewN_drewN _ _ _⟩ | exact ⟨rfl, _, Eq.trans (World.drewN_drewN _ _ _) (congrArg (World.drewN _) (Nat.add_assoc _ _ _))⟩)) | (go_at_call 20; (try simp only [i64_w, i32_w]); (with_reducible refine (delta_Apply.calls kj8 (catS t185 (⟨#[115, 111, 109, 101, 32, 98, 121, 116, 101, 115, 32, 97, 116, 32, 116, 104, 101, 32, 101, 110, 100]⟩ : ByteArray)) (catS (catS (catS (catS t196 (⟨#[10]⟩ : ByteArray)) x9_1) t198) (⟨#[59]⟩ : ByteArray)) t199 true _ A40.out).mono ?_); rintro e w' ⟨rfl, ⟨nd, rfl⟩⟩; (try first | exact ⟨rfl, _, World.drewN_drewN _ _ _⟩ | exact ⟨rfl, _, Eq.trans (World.drewN_drewN _ _ _) (congrArg (World.drewN _) (Nat.add_assoc _ _ _))⟩)) | (go_at_call 20; (try simp only [i64_w, i32_w]); (with_reducible refine (delta_Apply.calls kj8 (catS (catS t185 (⟨#[115, 111, 109, 101, 32, 98, 121, 116, 101, 115, 32, 97, 116, 32, 116, 104, 101, 32, 101, 110, 100]⟩ : ByteArray)) (⟨#[109, 111, 114, 101, 32, 98, 101, 104, 105, 110, 100, 32, 105, 116]⟩ : ByteArray)) (catS (catS (catS (catS t196 (⟨#[10]⟩ : ByteArray)) x9_1) t198) (⟨#[59]⟩ : ByteArray)) t201 true _ A42.out).mono ?_); rintro e w' ⟨rfl, ⟨nd, rfl⟩⟩; (try first | exact ⟨rfl, _, World.drewN_drewN _ _ _⟩ | exact ⟨rfl, _, Eq.trans (World.drewN_drewN _ _ _) (congrArg (World.drewN _) (Nat.add_assoc _ _ _))⟩)) | (go_at_call 20; (try simp only [i64_w, i32_w]); (with_reducible refine (delta_Apply.calls kj8 (catS t185 (⟨#[115, 111, 109, 101, 32, 98, 121, 116, 101, 115, 32, 97, 116, 32, 116, 104, 101, 32, 101, 110, 100]⟩ : ByteArray)) (catS (catS (catS (catS (catS t196 (⟨#[10]⟩ : ByteArray)) x9_1) t198) (⟨#[59]⟩ : ByteArray)) (⟨#[59]⟩ : ByteArray)) t203 false _ A44.out).mono ?_); rintro e w' ⟨rfl, ⟨nd, rfl⟩⟩; (try first | exact ⟨rfl, _, World.drewN_drewN _ _ _⟩ | exact ⟨rfl, _, Eq.trans (World.drewN_drewN _ _ _) (congrArg (World.drewN _) (Nat.add_assoc _ _ _))⟩)) | (go_at_call 20; (try simp only [i64_w, i32_w]); (with_reducible refine (delta_Apply.calls kj8 (catS t185 (⟨#[115, 111, 109, 101, 32, 98, 121, 116, 101, 115, 32, 97, 116, 32, 116, 104, 101, 32, 101, 110, 100]⟩ : ByteArray)) (catS (⟨#[49]⟩ : ByteArray) (catS (catS (catS (catS t196 (⟨#[10]⟩ : ByteArray)) x9_1) t198) (⟨#[59]⟩ : ByteArray))) t205 false _ A46.out).mono ?_); rintro e w' ⟨rfl, ⟨nd, rfl⟩⟩; (try first | exact ⟨rfl, _, World.drewN_drewN _ _ _⟩ | exact ⟨rfl, _, Eq.trans (World.drewN_drewN _ _ _) (congrArg (World.drewN _) (Nat.add_assoc _ _ _))⟩)) | (go_at_call 6; (try simp only [i64_w, i32_w]); (with_reducible refine (ammonitelaw3_DeltaRuns.calls kj8  t207 _ A53.out).mono ?_); rintro e w' ⟨rfl, ⟨nd, rfl⟩⟩; (try first | exact ⟨rfl, _, World.drewN_drewN _ _ _⟩ | exact ⟨rfl, _, Eq.trans (World.drewN_drewN _ _ _) (congrArg (World.drewN _) (Nat.add_assoc _ _ _))⟩))); try go_wp2_with (first | (go_at_call 18; (try simp only [i64_w, i32_w]); (with_reducible refine (digit_Put.calls kj8 (x8_1.size : Int) t196 _ A33.out).mono ?_); rintro e w' ⟨rfl, ⟨nd, rfl⟩⟩; (try first | exact ⟨rfl, _, World.drewN_drewN _ _ _⟩ | exact ⟨rfl, _, Eq.trans (World.drewN_drewN _ _ _) (congrArg (World.drewN _) (Nat.add_assoc _ _ _))⟩)) | (go_at_call 19; (try simp only [i64_w, i32_w]); (with_reducible refine (delta_Check.calls kj8 x8_1 t197 _ A36.out).mono ?_); rintro e w' ⟨rfl, ⟨nd, rfl⟩⟩; (try first | exact ⟨rfl, _, World.drewN_drewN _ _ _⟩ | exact ⟨rfl, _, Eq.trans (World.drewN_drewN _ _ _) (congrArg (World.drewN _) (Nat.add_assoc _ _ _))⟩)) | (go_at_call 18; (try simp only [i64_w, i32_w]); (with_reducible refine (digit_Put.calls kj8 t197 t198 _ A37.out).mono ?_); rintro e w' ⟨rfl, ⟨nd, rfl⟩⟩; (try first | exact ⟨rfl, _, World.drewN_drewN _ _ _⟩ | exact ⟨rfl, _, Eq.trans (World.drewN_drewN _ _ _) (congrArg (World.drewN _) (Nat.add_assoc _ _ _))⟩)) | (go_at_call 20; (try simp only [i64_w, i32_w]); (with_reducible refine (delta_Apply.calls kj8 (catS t185 (⟨#[115, 111, 109, 101, 32, 98, 121, 116, 101, 115, 32, 97, 116, 32, 116, 104, 101, 32, 101, 110, 100]⟩ : ByteArray)) (catS (catS (catS (catS t196 (⟨#[10]⟩ : ByteArray)) x9_1) t198) (⟨#[59]⟩ : ByteArray)) t199 true _ A40.out).mono ?_); rintro e w' ⟨rfl, ⟨nd, rfl⟩⟩; (try first | exact ⟨rfl, _, World.drewN_drewN _ _ _⟩ | exact ⟨rfl, _, Eq.trans (World.drewN_drewN _ _ _) (congrArg (World.drewN _) (Nat.add_assoc _ _ _))⟩)) | (go_at_call 20; (try simp only [i64_w, i32_w]); (with_reducible refine (delta_Apply.calls kj8 (catS (catS t185 (⟨#[115, 111, 109, 101, 32, 98, 121, 116, 101, 115, 32, 97, 116, 32, 116, 104, 101, 32, 101, 110, 100]⟩ : ByteArray)) (⟨#[109, 111, 114, 101, 32, 98, 101, 104, 105, 110, 100, 32, 105, 116]⟩ : ByteArray)) (catS (catS (catS (catS t196 (⟨#[10]⟩ : ByteArray)) x9_1) t198) (⟨#[59]⟩ : ByteArray)) t201 true _ A42.out).mono ?_); rintro e w' ⟨rfl, ⟨nd, rfl⟩⟩; (try first | exact ⟨rfl, _, World.drewN_drewN _ _ _⟩ | exact ⟨rfl, _, Eq.trans (World.drewN_drewN _ _ _) (congrArg (World.drewN _) (Nat.add_assoc _ _ _))⟩)) | (go_at_call 20; (try simp only [i64_w, i32_w]); (with_reducible refine (delta_Apply.calls kj8 (catS t185 (⟨#[115, 111, 109, 101, 32, 98, 121, 116, 101, 115, 32, 97, 116, 32, 116, 104, 101, 32, 101, 110, 100]⟩ : ByteArray)) (catS (catS (catS (catS (catS t196 (⟨#[10]⟩ : ByteArray)) x9_1) t198) (⟨#[59]⟩ : ByteArray)) (⟨#[59]⟩ : ByteArray)) t203 false _ A44.out).mono ?_); rintro e w' ⟨rfl, ⟨nd, rfl⟩⟩; (try first | exact ⟨rfl, _, World.drewN_drewN _ _ _⟩ | exact ⟨rfl, _, Eq.trans (World.drewN_drewN _ _ _) (congrArg (World.drewN _) (Nat.add_assoc _ _ _))⟩)) | (go_at_call 20; (try simp only [i64_w, i32_w]); (with_reducible refine (delta_Apply.calls kj8 (catS t185 (⟨#[115, 111, 109, 101, 32, 98, 121, 116, 101, 115, 32, 97, 116, 32, 116, 104, 101, 32, 101, 110, 100]⟩ : ByteArray)) (catS (⟨#[49]⟩ : ByteArray) (catS (catS (catS (catS t196 (⟨#[10]⟩ : ByteArray)) x9_1) t198) (⟨#[59]⟩ : ByteArray))) t205 false _ A46.out).mono ?_); rintro e w' ⟨rfl, ⟨nd, rfl⟩⟩; (try first | exact ⟨rfl, _, World.drewN_drewN _ _ _⟩ | exact ⟨rfl, _, Eq.trans (World.drewN_drewN _ _ _) (congrArg (World.drewN _) (Nat.add_assoc _ _ _))⟩)) | (go_at_call 6; (try simp only [i64_w, i32_w]); (with_reducible refine (ammonitelaw3_DeltaRuns.calls kj8  t207 _ A53.out).mono ?_); rintro e w' ⟨rfl, ⟨nd, rfl⟩⟩; (try first | exact ⟨rfl, _, World.drewN_drewN _ _ _⟩ | exact ⟨rfl, _, Eq.trans (World.drewN_drewN _ _ _) (congrArg (World.drewN _) (Nat.add_assoc _ _ _))⟩))))
                                        go_ret
                                        exact ⟨by first | rfl | (simp [errW_none, errW_some] <;> rfl) | (simp [*, errW_none, errW_some] <;> rfl), by repeat (first | (with_reducible first | exact HB.out | apply below_alloc | apply pw_below_drewN | apply below_drew1 | refine below_set ?_ GE184.out) | exact HB.out)⟩
                                        all_goals (exfalso; (try simp only [beq_iff_eq, bne_iff_ne, ne_eq, decide_eq_true_eq, decide_eq_false_iff_not, decide_eq_decide, bne_eq_false_iff_eq, beq_eq_false_iff_ne, Bool.not_eq_true, Bool.not_eq_false, Bool.not_eq_true', Bool.not_eq_false', Bool.true_beq, Bool.false_beq, Bool.true_bne, Bool.false_bne, Bool.bne_true, Bool.bne_false] at c5b0); (try simp only [beq_iff_eq, bne_iff_ne, ne_eq, decide_eq_true_eq, decide_eq_false_iff_not, decide_eq_decide, bne_eq_false_iff_eq, beq_eq_false_iff_ne, Bool.not_eq_true, Bool.not_eq_false, Bool.not_eq_true', Bool.not_eq_false', Bool.true_beq, Bool.false_beq, Bool.true_bne, Bool.false_bne, Bool.bne_true, Bool.bne_false] at c5b1); (try simp only [beq_iff_eq, bne_iff_ne, ne_eq, decide_eq_true_eq, decide_eq_false_iff_not, decide_eq_decide, bne_eq_false_iff_eq, beq_eq_false_iff_ne, Bool.not_eq_true, Bool.not_eq_false, Bool.not_eq_true', Bool.not_eq_false', Bool.true_beq, Bool.false_beq, Bool.true_bne, Bool.false_bne, Bool.bne_true, Bool.bne_false] at c34b0); (try simp only [beq_iff_eq, bne_iff_ne, ne_eq, decide_eq_true_eq, decide_eq_false_iff_not, decide_eq_decide, bne_eq_false_iff_eq, beq_eq_false_iff_ne, Bool.not_eq_true, Bool.not_eq_false, Bool.not_eq_true', Bool.not_eq_false', Bool.true_beq, Bool.false_beq, Bool.true_bne, Bool.false_bne, Bool.bne_true, Bool.bne_false] at c34b1); (try simp only [beq_iff_eq, bne_iff_ne, ne_eq, decide_eq_true_eq, decide_eq_false_iff_not, decide_eq_decide, bne_eq_false_iff_eq, beq_eq_false_iff_ne, Bool.not_eq_true, Bool.not_eq_false, Bool.not_eq_true', Bool.not_eq_false', Bool.true_beq, Bool.false_beq, Bool.true_bne, Bool.false_bne, Bool.bne_true, Bool.bne_false] at c35b0); (try simp only [beq_iff_eq, bne_iff_ne, ne_eq, decide_eq_true_eq, decide_eq_false_iff_not, decide_eq_decide, bne_eq_false_iff_eq, beq_eq_false_iff_ne, Bool.not_eq_true, Bool.not_eq_false, Bool.not_eq_true', Bool.not_eq_false', Bool.true_beq, Bool.false_beq, Bool.true_bne, Bool.false_bne, Bool.bne_true, Bool.bne_false] at c35b1); (try simp only [beq_iff_eq, bne_iff_ne, ne_eq, decide_eq_true_eq, decide_eq_false_iff_not, decide_eq_decide, bne_eq_false_iff_eq, beq_eq_false_iff_ne, Bool.not_eq_true, Bool.not_eq_false, Bool.not_eq_true', Bool.not_eq_false', Bool.true_beq, Bool.false_beq, Bool.true_bne, Bool.false_bne, Bool.bne_true, Bool.bne_false] at c38b0); (try simp only [beq_iff_eq, bne_iff_ne, ne_eq, decide_eq_true_eq, decide_eq_false_iff_not, decide_eq_decide, bne_eq_false_iff_eq, beq_eq_false_iff_ne, Bool.not_eq_true, Bool.not_eq_false, Bool.not_eq_true', Bool.not_eq_false', Bool.true_beq, Bool.false_beq, Bool.true_bne, Bool.false_bne, Bool.bne_true, Bool.bne_false] at c38b1); (try simp only [beq_iff_eq, bne_iff_ne, ne_eq, decide_eq_true_eq, decide_eq_false_iff_not, decide_eq_decide, bne_eq_false_iff_eq, beq_eq_false_iff_ne, Bool.not_eq_true, Bool.not_eq_false, Bool.not_eq_true', Bool.not_eq_false', Bool.true_beq, Bool.false_beq, Bool.true_bne, Bool.false_bne, Bool.bne_true, Bool.bne_false] at c39b0); (try simp only [beq_iff_eq, bne_iff_ne, ne_eq, decide_eq_true_eq, decide_eq_false_iff_not, decide_eq_decide, bne_eq_false_iff_eq, beq_eq_false_iff_ne, Bool.not_eq_true, Bool.not_eq_false, Bool.not_eq_true', Bool.not_eq_false', Bool.true_beq, Bool.false_beq, Bool.true_bne, Bool.false_bne, Bool.bne_true, Bool.bne_false] at c39b1); (try simp only [beq_iff_eq, bne_iff_ne, ne_eq, decide_eq_true_eq, decide_eq_false_iff_not, decide_eq_decide, bne_eq_false_iff_eq, beq_eq_false_iff_ne, Bool.not_eq_true, Bool.not_eq_false, Bool.not_eq_true', Bool.not_eq_false', Bool.true_beq, Bool.false_beq, Bool.true_bne, Bool.false_bne, Bool.bne_true, Bool.bne_false] at c41b0); (try simp only [beq_iff_eq, bne_iff_ne, ne_eq, decide_eq_true_eq, decide_eq_false_iff_not, decide_eq_decide, bne_eq_false_iff_eq, beq_eq_false_iff_ne, Bool.not_eq_true, Bool.not_eq_false, Bool.not_eq_true', Bool.not_eq_false', Bool.true_beq, Bool.false_beq, Bool.true_bne, Bool.false_bne, Bool.bne_true, Bool.bne_false] at c41b1); (try simp only [beq_iff_eq, bne_iff_ne, ne_eq, decide_eq_true_eq, decide_eq_false_iff_not, decide_eq_decide, bne_eq_false_iff_eq, beq_eq_false_iff_ne, Bool.not_eq_true, Bool.not_eq_false, Bool.not_eq_true', Bool.not_eq_false', Bool.true_beq, Bool.false_beq, Bool.true_bne, Bool.false_bne, Bool.bne_true, Bool.bne_false] at c43b0); (try simp only [beq_iff_eq, bne_iff_ne, ne_eq, decide_eq_true_eq, decide_eq_false_iff_not, decide_eq_decide, bne_eq_false_iff_eq, beq_eq_false_iff_ne, Bool.not_eq_true, Bool.not_eq_false, Bool.not_eq_true', Bool.not_eq_false', Bool.true_beq, Bool.false_beq, Bool.true_bne, Bool.false_bne, Bool.bne_true, Bool.bne_false] at c43b1); (try simp only [beq_iff_eq, bne_iff_ne, ne_eq, decide_eq_true_eq, decide_eq_false_iff_not, decide_eq_decide, bne_eq_false_iff_eq, beq_eq_false_iff_ne, Bool.not_eq_true, Bool.not_eq_false, Bool.not_eq_true', Bool.not_eq_false', Bool.true_beq, Bool.false_beq, Bool.true_bne, Bool.false_bne, Bool.bne_true, Bool.bne_false] at c45b0); (try simp only [beq_iff_eq, bne_iff_ne, ne_eq, decide_eq_true_eq, decide_eq_false_iff_not, decide_eq_decide, bne_eq_false_iff_eq, beq_eq_false_iff_ne, Bool.not_eq_true, Bool.not_eq_false, Bool.not_eq_true', Bool.not_eq_false', Bool.true_beq, Bool.false_beq, Bool.true_bne, Bool.false_bne, Bool.bne_true, Bool.bne_false] at c45b1); (try simp only [beq_iff_eq, bne_iff_ne, ne_eq, decide_eq_true_eq, decide_eq_false_iff_not, decide_eq_decide, bne_eq_false_iff_eq, beq_eq_false_iff_ne, Bool.not_eq_true, Bool.not_eq_false, Bool.not_eq_true', Bool.not_eq_false', Bool.true_beq, Bool.false_beq, Bool.true_bne, Bool.false_bne, Bool.bne_true, Bool.bne_false] at c48b0); (try simp only [beq_iff_eq, bne_iff_ne, ne_eq, decide_eq_true_eq, decide_eq_false_iff_not, decide_eq_decide, bne_eq_false_iff_eq, beq_eq_false_iff_ne, Bool.not_eq_true, Bool.not_eq_false, Bool.not_eq_true', Bool.not_eq_false', Bool.true_beq, Bool.false_beq, Bool.true_bne, Bool.false_bne, Bool.bne_true, Bool.bne_false] at c48b1); (try simp only [beq_iff_eq, bne_iff_ne, ne_eq, decide_eq_true_eq, decide_eq_false_iff_not, decide_eq_decide, bne_eq_false_iff_eq, beq_eq_false_iff_ne, Bool.not_eq_true, Bool.not_eq_false, Bool.not_eq_true', Bool.not_eq_false', Bool.true_beq, Bool.false_beq, Bool.true_bne, Bool.false_bne, Bool.bne_true, Bool.bne_false] at c50b0); (try simp only [beq_iff_eq, bne_iff_ne, ne_eq, decide_eq_true_eq, decide_eq_false_iff_not, decide_eq_decide, bne_eq_false_iff_eq, beq_eq_false_iff_ne, Bool.not_eq_true, Bool.not_eq_false, Bool.not_eq_true', Bool.not_eq_false', Bool.true_beq, Bool.false_beq, Bool.true_bne, Bool.false_bne, Bool.bne_true, Bool.bne_false] at c50b1); (try unfold wrap64 at *); omega)
                                  · rw [if_neg c50] at H
                                    have c50b0 : (t201.toList == x8_1.toList) = false := beq_eq_false_iff_ne.mpr c50
                                    have c50b1 : (t201.toList != x8_1.toList) = true := bne_iff_ne.mpr c50
                                    exact absurd ((Option.some.inj H).trans HRT.out) Bool.false_ne_true
                                · replace c49 := Bool.eq_false_iff.mpr c49
                                  subst c49
                                  have H1 : (some false) = some r := by rw [if_neg (show ¬ (false = true) by decide)] at H; exact H
                                  clear H
                                  have H := H1
                                  clear H1
                                  exact absurd ((Option.some.inj H).trans HRT.out) Bool.false_ne_true
                              · rw [if_neg c48] at H
                                have c48b0 : (t199.toList == x8_1.toList) = false := beq_eq_false_iff_ne.mpr c48
                                have c48b1 : (t199.toList != x8_1.toList) = true := bne_iff_ne.mpr c48
                                exact absurd ((Option.some.inj H).trans HRT.out) Bool.false_ne_true
                            · replace c47 := Bool.eq_false_iff.mpr c47
                              subst c47
                              have H1 : (some false) = some r := by rw [if_neg (show ¬ (false = true) by decide)] at H; exact H
                              clear H
                              have H := H1
                              clear H1
                              exact absurd ((Option.some.inj H).trans HRT.out) Bool.false_ne_true
                          · rw [if_neg c45] at H
                            exact absurd H (by simp)
                        · rw [if_neg c43] at H
                          exact absurd H (by simp)
                      · rw [if_neg c41] at H
                        exact absurd H (by simp)
                    · rw [if_neg c39] at H
                      exact absurd H (by simp)
                  · rw [if_neg c38] at H
                    exact absurd H (by simp)
                · rw [if_neg c35] at H
                  exact absurd H (by simp)
              · rw [if_neg c34] at H
                exact absurd H (by simp)
  · rw [if_neg c5] at H
    exact absurd H (by simp)

/-- THE ONE PURE STATEMENT of ammonitelaw3_DeltaParts: yours. -/
def ammonitelaw3_DeltaParts.Pure : Prop := ∀ (a0_0 : Int) (l0_1 : List Int) (l1 : List Int) (a2 : Int), (Lit.int .i64 a0_0).wf = true → l0_1.length ≤ maxLen → (∀ x ∈ l0_1, (Lit.int .i64 x).wf = true) → l1.length ≤ maxLen → l1.length * 8 ≤ 140737488351232 → (∀ x ∈ l1, (Lit.int .i64 x).wf = true) → (Lit.int .u8 a2).wf = true → ∃ k, ammonitelaw3_DeltaParts.f k a0_0 l0_1 l1 a2 = some true
theorem ammonitelaw3_DeltaParts.walk (P : ammonitelaw3_DeltaParts.Pure) (a0_0 : Int) (a0_1 : Option Addr) (len0_1 cap0_1 : Nat) (z0_1 : List Int) (a1 : Option Addr) (len1 cap1 : Nat) (z1 : List Int) (a2 : Int) (w : World) (w0_0 : (Lit.int .i64 a0_0).wf = true) (w0_1 : (a0_1 = none ∧ len0_1 = 0 ∧ cap0_1 = 0 ∧ z0_1 = []) ∨ ∃ x, a0_1 = some x ∧ len0_1 ≤ cap0_1 ∧ cap0_1 ≤ maxLen ∧ z0_1.length = cap0_1 ∧ (∀ i, i < z0_1.length → w.cell? (x.add i) = some (.int .i64 (z0_1.getD i 0))) ∧ ∀ n ∈ z0_1, (Lit.int .i64 n).wf = true) (w1 : (a1 = none ∧ len1 = 0 ∧ cap1 = 0 ∧ z1 = []) ∨ ∃ x, a1 = some x ∧ len1 ≤ cap1 ∧ cap1 ≤ maxLen ∧ z1.length = cap1 ∧ (∀ i, i < z1.length → w.cell? (x.add i) = some (.int .i64 (z1.getD i 0))) ∧ ∀ n ∈ z1, (Lit.int .i64 n).wf = true) (y1 : len1 * 8 ≤ 140737488351232) (w2 : (Lit.int .u8 a2).wf = true) :
    Calls Try.prog 8 #[.agg #[.int .i64 a0_0, .slice a0_1 len0_1 cap0_1], .slice a1 len1 cap1, .int .u8 a2] w fun e w' => e = .returned (.bool true) ∧ Below w.heap.size w w' := by
  obtain ⟨l0_1, rfl, hr0_1, hm0_1, hw0_1, hc0_1⟩ := ReadsInt.ofRowC w0_1
  obtain ⟨l1, rfl, hr1, hm1, hw1, hc1⟩ := ReadsInt.ofRowC w1
  obtain ⟨k, h⟩ := P a0_0 l0_1 l1 a2 w0_0 hm0_1 hw0_1 hm1 y1 hw1 w2
  refine (ammonitelaw3_DeltaParts.calls k a0_0 _ _ l0_1 _ _ l1 a2 true w (Kd.C_of_reads (d := (0 : Int)) (h1 := fun _ => rfl) hr0_1) hc0_1 (Kd.C_of_reads (d := (0 : Int)) (h1 := fun _ => rfl) hr1) hc1 h rfl).mono ?_
  rintro e w' ⟨rfl, hd⟩
  exact ⟨rfl, hd⟩

/-! ### stringslite_HasPrefix: function 46 -/
def stringslite_HasPrefix.f (a0 : ByteArray) (a1 : ByteArray) : Option (Bool) := if (a0.size : Int) ≥ (a1.size : Int) then (if 0 ≤ (a1.size : Int) then (if (a1.size : Int) ≤ (a0.size : Int) then (some ((cutS a0 0 ((a1.size : Int) : Int).toNat).toList == a1.toList)) else (none)) else (none)) else (some false)
set_option maxHeartbeats 8000000 in
set_option maxRecDepth 100000 in
theorem stringslite_HasPrefix.calls (a0 : ByteArray) (a1 : ByteArray) (r : Bool) (w : World) (h : stringslite_HasPrefix.f a0 a1 = some r) :
    Calls Try.prog 46 #[.string a0, .string a1] w fun e w' => e = .returned (.bool r) ∧ Drawn0 w w' := by
  have H : (if (a0.size : Int) ≥ (a1.size : Int) then (if 0 ≤ (a1.size : Int) then (if (a1.size : Int) ≤ (a0.size : Int) then (some ((cutS a0 0 ((a1.size : Int) : Int).toNat).toList == a1.toList)) else (none)) else (none)) else (some false)) = some r := h
  clear h
  by_cases c3 : (a0.size : Int) ≥ (a1.size : Int)
  · rw [if_pos c3] at H
    have c3b0 : decide ((a1.size : Int) ≤ (a0.size : Int)) = true := decide_eq_true c3
    have c3b1 : decide (a1.size ≤ a0.size) = true := decide_eq_true (Int.ofNat_le.mp c3)
    clear c3
    by_cases c4 : 0 ≤ (a1.size : Int)
    · rw [if_pos c4] at H
      have c4b0 := eq_true c4
      have c4b1 : decide (0 ≤ (a1.size : Int)) = true := decide_eq_true c4
      clear c4
      by_cases c5 : (a1.size : Int) ≤ (a0.size : Int)
      · rw [if_pos c5] at H
        have c5b0 := eq_true c5
        have c5b1 : decide ((a1.size : Int) ≤ (a0.size : Int)) = true := decide_eq_true c5
        clear c5
        obtain rfl := Option.some.inj H
        go_enter Try.func46, Try.ntmps46
        go_wp2
        go_ret
        exact ⟨by first | rfl | (simp; done) | (simp [*]; done), by repeat (first | exact Drawn0.refl _ | apply Drawn0.step)⟩
        all_goals (exfalso; (try simp only [beq_iff_eq, bne_iff_ne, ne_eq, decide_eq_true_eq, decide_eq_false_iff_not, decide_eq_decide, bne_eq_false_iff_eq, beq_eq_false_iff_ne, Bool.not_eq_true, Bool.not_eq_false, Bool.not_eq_true', Bool.not_eq_false', Bool.true_beq, Bool.false_beq, Bool.true_bne, Bool.false_bne, Bool.bne_true, Bool.bne_false] at c3b0); (try simp only [beq_iff_eq, bne_iff_ne, ne_eq, decide_eq_true_eq, decide_eq_false_iff_not, decide_eq_decide, bne_eq_false_iff_eq, beq_eq_false_iff_ne, Bool.not_eq_true, Bool.not_eq_false, Bool.not_eq_true', Bool.not_eq_false', Bool.true_beq, Bool.false_beq, Bool.true_bne, Bool.false_bne, Bool.bne_true, Bool.bne_false] at c3b1); (try simp only [beq_iff_eq, bne_iff_ne, ne_eq, decide_eq_true_eq, decide_eq_false_iff_not, decide_eq_decide, bne_eq_false_iff_eq, beq_eq_false_iff_ne, Bool.not_eq_true, Bool.not_eq_false, Bool.not_eq_true', Bool.not_eq_false', Bool.true_beq, Bool.false_beq, Bool.true_bne, Bool.false_bne, Bool.bne_true, Bool.bne_false] at c4b0); (try simp only [beq_iff_eq, bne_iff_ne, ne_eq, decide_eq_true_eq, decide_eq_false_iff_not, decide_eq_decide, bne_eq_false_iff_eq, beq_eq_false_iff_ne, Bool.not_eq_true, Bool.not_eq_false, Bool.not_eq_true', Bool.not_eq_false', Bool.true_beq, Bool.false_beq, Bool.true_bne, Bool.false_bne, Bool.bne_true, Bool.bne_false] at c4b1); (try simp only [beq_iff_eq, bne_iff_ne, ne_eq, decide_eq_true_eq, decide_eq_false_iff_not, decide_eq_decide, bne_eq_false_iff_eq, beq_eq_false_iff_ne, Bool.not_eq_true, Bool.not_eq_false, Bool.not_eq_true', Bool.not_eq_false', Bool.true_beq, Bool.false_beq, Bool.true_bne, Bool.false_bne, Bool.bne_true, Bool.bne_false] at c5b0); (try simp only [beq_iff_eq, bne_iff_ne, ne_eq, decide_eq_true_eq, decide_eq_false_iff_not, decide_eq_decide, bne_eq_false_iff_eq, beq_eq_false_iff_ne, Bool.not_eq_true, Bool.not_eq_false, Bool.not_eq_true', Bool.not_eq_false', Bool.true_beq, Bool.false_beq, Bool.true_bne, Bool.false_bne, Bool.bne_true, Bool.bne_false] at c5b1); (try unfold wrap64 at *); omega)
      · rw [if_neg c5] at H
        exact absurd H (by simp)
    · rw [if_neg c4] at H
      exact absurd H (by simp)
  · rw [if_neg c3] at H
    have c3b0 : decide ((a1.size : Int) ≤ (a0.size : Int)) = false := decide_eq_false c3
    have c3b1 : decide (a1.size ≤ a0.size) = false := decide_eq_false (fun h => c3 (Int.ofNat_le.mpr h))
    clear c3
    obtain rfl := Option.some.inj H
    go_enter Try.func46, Try.ntmps46
    go_wp2
    go_ret
    exact ⟨by first | rfl | (simp; done) | (simp [*]; done), by repeat (first | exact Drawn0.refl _ | apply Drawn0.step)⟩
    all_goals (exfalso; (try simp only [beq_iff_eq, bne_iff_ne, ne_eq, decide_eq_true_eq, decide_eq_false_iff_not, decide_eq_decide, bne_eq_false_iff_eq, beq_eq_false_iff_ne, Bool.not_eq_true, Bool.not_eq_false, Bool.not_eq_true', Bool.not_eq_false', Bool.true_beq, Bool.false_beq, Bool.true_bne, Bool.false_bne, Bool.bne_true, Bool.bne_false] at c3b0); (try simp only [beq_iff_eq, bne_iff_ne, ne_eq, decide_eq_true_eq, decide_eq_false_iff_not, decide_eq_decide, bne_eq_false_iff_eq, beq_eq_false_iff_ne, Bool.not_eq_true, Bool.not_eq_false, Bool.not_eq_true', Bool.not_eq_false', Bool.true_beq, Bool.false_beq, Bool.true_bne, Bool.false_bne, Bool.bne_true, Bool.bne_false] at c3b1); (try unfold wrap64 at *); omega)

/-! ### strings_HasPrefix: function 38 -/
def strings_HasPrefix.f (a0 : ByteArray) (a1 : ByteArray) : Option (Bool) := (stringslite_HasPrefix.f a0 a1).bind fun t208 => (some t208)
set_option maxHeartbeats 8000000 in
set_option maxRecDepth 100000 in
theorem strings_HasPrefix.calls (a0 : ByteArray) (a1 : ByteArray) (r : Bool) (w : World) (h : strings_HasPrefix.f a0 a1 = some r) :
    Calls Try.prog 38 #[.string a0, .string a1] w fun e w' => e = .returned (.bool r) ∧ Drawn0 w w' := by
  have H : ((stringslite_HasPrefix.f a0 a1).bind fun t208 => (some t208)) = some r := h
  clear h
  replace H := Option.bind_eq_some_iff.mp H
  obtain ⟨t208, A30, H⟩ := H
  replace H : (some t208) = some r := H
  have A3 := Aside0.mk A30
  clear A30
  obtain rfl := Option.some.inj H
  go_enter Try.func38, Try.ntmps38
  go_wp2_with (first | ((with_reducible refine gate_callee (f := 46) rfl ?_); refine goesL_ (some 7) rfl rfl Try.func46 (by kernel_rfl) rfl #[.string a0, .string a1] rfl (by (try simp only [List.map_toArray, List.map_cons, List.map_nil]); first | done | rfl | (simp only [List.length_drop, List.length_take]; rfl)) ?_; (with_reducible refine (stringslite_HasPrefix.calls a0 a1 t208 _ A3.out).mono ?_); rintro e w' ⟨rfl, ⟨nd, rfl⟩⟩; refine ⟨_, rfl, ?_⟩))
  go_ret
  exact ⟨by first | rfl | (simp; done) | (simp [*]; done), by repeat (first | exact Drawn0.refl _ | apply Drawn0.step)⟩
  all_goals (exfalso; (try unfold wrap64 at *); omega)

/-! ### hash_Prefix: function 27 -/
mutual
def hash_Prefix.l0 : Nat → ByteArray → ByteArray → Bool → List ByteArray → Int → Int → Option (ByteArray × Bool)
  | 0, _, _, _, _, _, _ => none
  | k + 1, x1, x6, x7, x10, x11, x12 => if x12 < x11 then (if 0 ≤ x12 then (if x12 < (x10.length : Int) then ((strings_HasPrefix.f (rdOf ByteArray.empty x10 x12) x1).bind fun t210 => (if t210 = true then (if x7 = true then (hash_Prefix.j1 k x1 x6 x7 (rdOf ByteArray.empty x10 x12) x10 x11 x12 ((rdOf ByteArray.empty x10 x12).toList == x6.toList)) else (hash_Prefix.j1 k x1 x6 x7 (rdOf ByteArray.empty x10 x12) x10 x11 x12 false)) else (hash_Prefix.j1 k x1 x6 x7 (rdOf ByteArray.empty x10 x12) x10 x11 x12 true))) else (none)) else (none)) else (if (x1.size : Int) < 4 then (some ((⟨#[]⟩ : ByteArray), false)) else (some (x6, x7)))
def hash_Prefix.j1 : Nat → ByteArray → ByteArray → Bool → ByteArray → List ByteArray → Int → Int → Bool → Option (ByteArray × Bool)
  | 0, _, _, _, _, _, _, _, _ => none
  | k + 1, x1, x6, x7, x9, x10, x11, x12, x27 => if x27 = true then (hash_Prefix.l0 k x1 x6 x7 x10 x11 (wrap64 (x12 + 1))) else (if x7 = true then (some ((⟨#[]⟩ : ByteArray), false)) else (hash_Prefix.l0 k x1 x9 true x10 x11 (wrap64 (x12 + 1))))
end
def hash_Prefix.f (k : Nat) (l0 : List ByteArray) (a1 : ByteArray) : Option (ByteArray × Bool) := hash_Prefix.l0 k a1 (⟨#[]⟩ : ByteArray) false l0 (l0.length : Int) 0
theorem hash_Prefix.mono_l : ∀ k, (∀ y0 y1 y2 y3 y4 y5, LeO (hash_Prefix.l0 k y0 y1 y2 y3 y4 y5) (hash_Prefix.l0 (k + 1) y0 y1 y2 y3 y4 y5)) ∧ (∀ y0 y1 y2 y3 y4 y5 y6 y7, LeO (hash_Prefix.j1 k y0 y1 y2 y3 y4 y5 y6 y7) (hash_Prefix.j1 (k + 1) y0 y1 y2 y3 y4 y5 y6 y7))
  | 0 => ⟨fun _ _ _ _ _ _ r h => by simp [hash_Prefix.l0] at h, fun _ _ _ _ _ _ _ _ r h => by simp [hash_Prefix.j1] at h⟩
  | k + 1 => by
    obtain ⟨ih0, ih1⟩ := hash_Prefix.mono_l k
    refine ⟨?_, ?_⟩
    · intro y0 y1 y2 y3 y4 y5
      unfold hash_Prefix.l0
      repeat' first
      | (with_reducible exact ih0 _ _ _ _ _ _)
      | (with_reducible exact ih1 _ _ _ _ _ _ _ _)
      | (with_reducible exact LeO.refl _)
      | (with_reducible exact LeO.none _)
      | (with_reducible refine LeO.ite ?_ ?_)
      | (with_reducible refine LeO.bind ?_ (fun _ => ?_))
      | exact ih0 _ _ _ _ _ _
      | exact ih1 _ _ _ _ _ _ _ _
      | exact LeO.none _
      | refine LeO.ite ?_ ?_
      | refine LeO.bind ?_ (fun _ => ?_)
    · intro y0 y1 y2 y3 y4 y5 y6 y7
      unfold hash_Prefix.j1
      repeat' first
      | (with_reducible exact ih0 _ _ _ _ _ _)
      | (with_reducible exact ih1 _ _ _ _ _ _ _ _)
      | (with_reducible exact LeO.refl _)
      | (with_reducible exact LeO.none _)
      | (with_reducible refine LeO.ite ?_ ?_)
      | (with_reducible refine LeO.bind ?_ (fun _ => ?_))
      | exact ih0 _ _ _ _ _ _
      | exact ih1 _ _ _ _ _ _ _ _
      | exact LeO.none _
      | refine LeO.ite ?_ ?_
      | refine LeO.bind ?_ (fun _ => ?_)
theorem hash_Prefix.mono : ∀ a0 a1 k, LeO (hash_Prefix.f k a0 a1) (hash_Prefix.f (k + 1) a0 a1) := by
  intro a0 a1 k
  obtain ⟨ih0, ih1⟩ := hash_Prefix.mono_l k
  unfold hash_Prefix.f
  repeat' first
      | (with_reducible exact ih0 _ _ _ _ _ _)
      | (with_reducible exact ih1 _ _ _ _ _ _ _ _)
      | (with_reducible exact LeO.refl _)
      | (with_reducible exact LeO.none _)
      | (with_reducible refine LeO.ite ?_ ?_)
      | (with_reducible refine LeO.bind ?_ (fun _ => ?_))
      | exact ih0 _ _ _ _ _ _
      | exact ih1 _ _ _ _ _ _ _ _
      | exact LeO.none _
      | refine LeO.ite ?_ ?_
      | refine LeO.bind ?_ (fun _ => ?_)
set_option maxHeartbeats 8000000 in
set_option maxRecDepth 100000 in
theorem hash_Prefix.calls (k : Nat) (A0 : Option Addr) (c0 : Nat) (l0 : List ByteArray) (a1 : ByteArray) (r1 : ByteArray) (r2 : Bool) (w : World) (hr0 : Kd.C Kd.string w A0 l0.length l0) (hc0 : l0.length ≤ c0) (h : hash_Prefix.f k l0 a1 = some (r1, r2)) :
    Calls Try.prog 27 #[.slice A0 l0.length c0, .string a1] w fun e w' => e = .returned (.tuple #[.string r1, .bool r2]) ∧ Drawn0 w w' := by
  have HR0 := Aside0.mk hr0
  have HC0 := Aside0.mk hc0
  clear hr0 hc0
  have H : (hash_Prefix.l0 k a1 (⟨#[]⟩ : ByteArray) false l0 (l0.length : Int) 0) = some (r1, r2) := h
  clear h
  have H' := Aside0.mk H
  clear H
  go_enter Try.func27, Try.ntmps27
  go_wp2
  go_loopg [6, 7, 12] k (fun kq v6 v7 v12 w' => ∃ (x6_1 : ByteArray) (x7_1 : Bool) (x12_1 : Int), v6 = .string x6_1 ∧ v7 = .bool x7_1 ∧ v12 = .int .i64 x12_1 ∧ Aside0 (hash_Prefix.l0 kq a1 x6_1 x7_1 l0 (l0.length : Int) x12_1 = some (r1, r2)) ∧ Aside0 (kq ≤ k) ∧ Drawn0 w w')
  case atStart => exact ⟨((⟨#[]⟩ : ByteArray)), (false), (0), (by first | rfl | (simp; done) | (simp [*]; done)), (by first | rfl | (simp; done) | (simp [*]; done)), (by first | rfl | (simp; done) | (simp [*]; done)), H', ⟨Nat.le_refl _⟩, by repeat (first | exact Drawn0.refl _ | apply Drawn0.step)⟩
  case round =>
    clear H'
    try clear c2
    try clear p2
    obtain ⟨x6_1, x7_1, x12_1, rfl, rfl, rfl, HA, HK1, ⟨m1, rfl⟩⟩ := hrel
    cases gk with
    | zero => exact absurd HA.out (by simp [hash_Prefix.l0])
    | succ k1 =>
      have H := HA.out
      clear HA
      simp only [hash_Prefix.l0] at H
      by_cases c3 : x12_1 < (l0.length : Int)
      · rw [if_pos c3] at H
        have c3b0 : decide (x12_1 < (l0.length : Int)) = true := decide_eq_true c3
        clear c3
        by_cases c4 : 0 ≤ x12_1
        · rw [if_pos c4] at H
          have c4b0 : decide (0 ≤ x12_1) = true := decide_eq_true c4
          clear c4
          by_cases c5 : x12_1 < (l0.length : Int)
          · rw [if_pos c5] at H
            have c5b0 : decide (x12_1 < (l0.length : Int)) = true := decide_eq_true c5
            clear c5
            have HC6 := Aside0.mk H
            clear H
            have p209 : 0 ≤ (x12_1 : Int) := of_decide_eq_true (by first | (with_reducible assumption) | assumption)
            have q209 : x12_1 < (l0.length : Int) := of_decide_eq_true (by first | (with_reducible assumption) | assumption)
            obtain ⟨ad209, e209, hx209_0⟩ := Kd.at_string HR0.out x12_1 p209 q209
            cases e209
            replace p209 := eq_true p209
            replace q209 := eq_true q209
            go_upto_region 5 with (fail)
            go_cut [27] (fun v27 wc => ∃ (kq : Nat) (x27_5 : Bool), v27 = .bool x27_5 ∧ Aside0 (hash_Prefix.j1 kq a1 x6_1 x7_1 (rdOf ByteArray.empty l0 x12_1) l0 (l0.length : Int) x12_1 x27_5 = some (r1, r2)) ∧ Aside0 (kq ≤ k1) ∧ Drawn0 w wc)
            case first =>
              have H := HC6.out
              clear HC6
              replace H := Option.bind_eq_some_iff.mp H
              obtain ⟨t210, A70, H⟩ := H
              replace H : (if t210 = true then (if x7_1 = true then (hash_Prefix.j1 k1 a1 x6_1 x7_1 (rdOf ByteArray.empty l0 x12_1) l0 (l0.length : Int) x12_1 ((rdOf ByteArray.empty l0 x12_1).toList == x6_1.toList)) else (hash_Prefix.j1 k1 a1 x6_1 x7_1 (rdOf ByteArray.empty l0 x12_1) l0 (l0.length : Int) x12_1 false)) else (hash_Prefix.j1 k1 a1 x6_1 x7_1 (rdOf ByteArray.empty l0 x12_1) l0 (l0.length : Int) x12_1 true)) = some (r1, r2) := H
              have A7 := Aside0.mk A70
              clear A70
              by_cases c8 : t210 = true
              · subst c8
                have H1 : (if x7_1 = true then (hash_Prefix.j1 k1 a1 x6_1 x7_1 (rdOf ByteArray.empty l0 x12_1) l0 (l0.length : Int) x12_1 ((rdOf ByteArray.empty l0 x12_1).toList == x6_1.toList)) else (hash_Prefix.j1 k1 a1 x6_1 x7_1 (rdOf ByteArray.empty l0 x12_1) l0 (l0.length : Int) x12_1 false)) = some (r1, r2) := by rw [if_pos rfl] at H; exact H
                clear H
                have H := H1
                clear H1
                by_cases c9 : x7_1 = true
                · subst c9
                  have H1 : (hash_Prefix.j1 k1 a1 x6_1 true (rdOf ByteArray.empty l0 x12_1) l0 (l0.length : Int) x12_1 ((rdOf ByteArray.empty l0 x12_1).toList == x6_1.toList)) = some (r1, r2) := by rw [if_pos rfl] at H; exact H
                  clear H
                  have H := H1
                  clear H1
                  have H' := Aside0.mk H
                  clear H
                  go_wp2_with (first | ((with_reducible refine gate_callee (f := 38) rfl ?_); refine goesL_ (some 18) rfl rfl Try.func38 (by kernel_rfl) rfl #[.string (rdOf ByteArray.empty l0 x12_1), .string a1] rfl (by (try simp only [List.map_toArray, List.map_cons, List.map_nil]); first | done | rfl | (simp only [List.length_drop, List.length_take]; rfl)) ?_; (with_reducible refine (strings_HasPrefix.calls (rdOf ByteArray.empty l0 x12_1) a1 true _ A7.out).mono ?_); rintro e w' ⟨rfl, ⟨nd, rfl⟩⟩; refine ⟨_, rfl, ?_⟩))
                  go_meet
                  case rel => exact ⟨_, (((rdOf ByteArray.empty l0 x12_1).toList == x6_1.toList)), (by first | rfl | (simp; done) | (simp [*]; done)), H', ⟨by have := HK1.out; first | omega | exact Nat.le_refl _⟩, by repeat (first | exact Drawn0.refl _ | apply Drawn0.step)⟩
                  all_goals (exfalso; (try simp only [beq_iff_eq, bne_iff_ne, ne_eq, decide_eq_true_eq, decide_eq_false_iff_not, decide_eq_decide, bne_eq_false_iff_eq, beq_eq_false_iff_ne, Bool.not_eq_true, Bool.not_eq_false, Bool.not_eq_true', Bool.not_eq_false', Bool.true_beq, Bool.false_beq, Bool.true_bne, Bool.false_bne, Bool.bne_true, Bool.bne_false] at c3b0); (try simp only [beq_iff_eq, bne_iff_ne, ne_eq, decide_eq_true_eq, decide_eq_false_iff_not, decide_eq_decide, bne_eq_false_iff_eq, beq_eq_false_iff_ne, Bool.not_eq_true, Bool.not_eq_false, Bool.not_eq_true', Bool.not_eq_false', Bool.true_beq, Bool.false_beq, Bool.true_bne, Bool.false_bne, Bool.bne_true, Bool.bne_false] at c4b0); (try simp only [beq_iff_eq, bne_iff_ne, ne_eq, decide_eq_true_eq, decide_eq_false_iff_not, decide_eq_decide, bne_eq_false_iff_eq, beq_eq_false_iff_ne, Bool.not_eq_true, Bool.not_eq_false, Bool.not_eq_true', Bool.not_eq_false', Bool.true_beq, Bool.false_beq, Bool.true_bne, Bool.false_bne, Bool.bne_true, Bool.bne_false] at c5b0); (try unfold wrap64 at *); omega)
                · replace c9 := Bool.eq_false_iff.mpr c9
                  subst c9
                  have H1 : (hash_Prefix.j1 k1 a1 x6_1 false (rdOf ByteArray.empty l0 x12_1) l0 (l0.length : Int) x12_1 false) = some (r1, r2) := by rw [if_neg (show ¬ (false = true) by decide)] at H; exact H
                  clear H
                  have H := H1
                  clear H1
                  have H' := Aside0.mk H
                  clear H
                  go_wp2_with (first | ((with_reducible refine gate_callee (f := 38) rfl ?_); refine goesL_ (some 18) rfl rfl Try.func38 (by kernel_rfl) rfl #[.string (rdOf ByteArray.empty l0 x12_1), .string a1] rfl (by (try simp only [List.map_toArray, List.map_cons, List.map_nil]); first | done | rfl | (simp only [List.length_drop, List.length_take]; rfl)) ?_; (with_reducible refine (strings_HasPrefix.calls (rdOf ByteArray.empty l0 x12_1) a1 true _ A7.out).mono ?_); rintro e w' ⟨rfl, ⟨nd, rfl⟩⟩; refine ⟨_, rfl, ?_⟩))
                  go_meet
                  case rel => exact ⟨_, (false), (by first | rfl | (simp; done) | (simp [*]; done)), H', ⟨by have := HK1.out; first | omega | exact Nat.le_refl _⟩, by repeat (first | exact Drawn0.refl _ | apply Drawn0.step)⟩
                  all_goals (exfalso; (try simp only [beq_iff_eq, bne_iff_ne, ne_eq, decide_eq_true_eq, decide_eq_false_iff_not, decide_eq_decide, bne_eq_false_iff_eq, beq_eq_false_iff_ne, Bool.not_eq_true, Bool.not_eq_false, Bool.not_eq_true', Bool.not_eq_false', Bool.true_beq, Bool.false_beq, Bool.true_bne, Bool.false_bne, Bool.bne_true, Bool.bne_false] at c3b0); (try simp only [beq_iff_eq, bne_iff_ne, ne_eq, decide_eq_true_eq, decide_eq_false_iff_not, decide_eq_decide, bne_eq_false_iff_eq, beq_eq_false_iff_ne, Bool.not_eq_true, Bool.not_eq_false, Bool.not_eq_true', Bool.not_eq_false', Bool.true_beq, Bool.false_beq, Bool.true_bne, Bool.false_bne, Bool.bne_true, Bool.bne_false] at c4b0); (try simp only [beq_iff_eq, bne_iff_ne, ne_eq, decide_eq_true_eq, decide_eq_false_iff_not, decide_eq_decide, bne_eq_false_iff_eq, beq_eq_false_iff_ne, Bool.not_eq_true, Bool.not_eq_false, Bool.not_eq_true', Bool.not_eq_false', Bool.true_beq, Bool.false_beq, Bool.true_bne, Bool.false_bne, Bool.bne_true, Bool.bne_false] at c5b0); (try unfold wrap64 at *); omega)
              · replace c8 := Bool.eq_false_iff.mpr c8
                subst c8
                have H1 : (hash_Prefix.j1 k1 a1 x6_1 x7_1 (rdOf ByteArray.empty l0 x12_1) l0 (l0.length : Int) x12_1 true) = some (r1, r2) := by rw [if_neg (show ¬ (false = true) by decide)] at H; exact H
                clear H
                have H := H1
                clear H1
                have H' := Aside0.mk H
                clear H
                go_wp2_with (first | ((with_reducible refine gate_callee (f := 38) rfl ?_); refine goesL_ (some 18) rfl rfl Try.func38 (by kernel_rfl) rfl #[.string (rdOf ByteArray.empty l0 x12_1), .string a1] rfl (by (try simp only [List.map_toArray, List.map_cons, List.map_nil]); first | done | rfl | (simp only [List.length_drop, List.length_take]; rfl)) ?_; (with_reducible refine (strings_HasPrefix.calls (rdOf ByteArray.empty l0 x12_1) a1 false _ A7.out).mono ?_); rintro e w' ⟨rfl, ⟨nd, rfl⟩⟩; refine ⟨_, rfl, ?_⟩))
                go_meet
                case rel => exact ⟨_, (true), (by first | rfl | (simp; done) | (simp [*]; done)), H', ⟨by have := HK1.out; first | omega | exact Nat.le_refl _⟩, by repeat (first | exact Drawn0.refl _ | apply Drawn0.step)⟩
                all_goals (exfalso; (try simp only [beq_iff_eq, bne_iff_ne, ne_eq, decide_eq_true_eq, decide_eq_false_iff_not, decide_eq_decide, bne_eq_false_iff_eq, beq_eq_false_iff_ne, Bool.not_eq_true, Bool.not_eq_false, Bool.not_eq_true', Bool.not_eq_false', Bool.true_beq, Bool.false_beq, Bool.true_bne, Bool.false_bne, Bool.bne_true, Bool.bne_false] at c3b0); (try simp only [beq_iff_eq, bne_iff_ne, ne_eq, decide_eq_true_eq, decide_eq_false_iff_not, decide_eq_decide, bne_eq_false_iff_eq, beq_eq_false_iff_ne, Bool.not_eq_true, Bool.not_eq_false, Bool.not_eq_true', Bool.not_eq_false', Bool.true_beq, Bool.false_beq, Bool.true_bne, Bool.false_bne, Bool.bne_true, Bool.bne_false] at c4b0); (try simp only [beq_iff_eq, bne_iff_ne, ne_eq, decide_eq_true_eq, decide_eq_false_iff_not, decide_eq_decide, bne_eq_false_iff_eq, beq_eq_false_iff_ne, Bool.not_eq_true, Bool.not_eq_false, Bool.not_eq_true', Bool.not_eq_false', Bool.true_beq, Bool.false_beq, Bool.true_bne, Bool.false_bne, Bool.bne_true, Bool.bne_false] at c5b0); (try unfold wrap64 at *); omega)
            case rest =>
              clear HC6
              try clear c2
              try clear p2
              try clear q2
              try clear hx2
              try clear c3
              try clear c3b0
              try clear c4
              try clear c4b0
              try clear c5
              try clear c5b0
              try clear p6
              try clear c8
              try clear c9
              try clear hx209_0
              try clear p2
              try clear p209
              try clear q209
              obtain ⟨kq, x27_5, rfl, HA, HJ5, ⟨mc5, rfl⟩⟩ := hcut
              cases kq with
              | zero => exact absurd HA.out (by simp [hash_Prefix.j1])
              | succ kj5 =>
                have H := HA.out
                clear HA
                simp only [hash_Prefix.j1] at H
                by_cases c10 : x27_5 = true
                · subst c10
                  have H1 : (hash_Prefix.l0 kj5 a1 x6_1 x7_1 l0 (l0.length : Int) (wrap64 (x12_1 + 1))) = some (r1, r2) := by rw [if_pos rfl] at H; exact H
                  clear H
                  have H := H1
                  clear H1
                  have H' := Aside0.mk H
                  clear H
                  go_wp2
                  go_roundg kj5
                  case measure => have := HK1.out; have := HJ5.out; omega
                  case rel => exact ⟨(x6_1), (x7_1), (wrap64 (x12_1 + 1)), (by first | rfl | (simp; done) | (simp [*]; done)), (by first | rfl | (simp; done) | (simp [*]; done)), (by first | rfl | (simp; done) | (simp [*]; done)), H', ⟨by have := HK1.out; have := HJ5.out; omega⟩, by repeat (first | exact Drawn0.refl _ | apply Drawn0.step)⟩
                  all_goals (exfalso; (try simp only [beq_iff_eq, bne_iff_ne, ne_eq, decide_eq_true_eq, decide_eq_false_iff_not, decide_eq_decide, bne_eq_false_iff_eq, beq_eq_false_iff_ne, Bool.not_eq_true, Bool.not_eq_false, Bool.not_eq_true', Bool.not_eq_false', Bool.true_beq, Bool.false_beq, Bool.true_bne, Bool.false_bne, Bool.bne_true, Bool.bne_false] at c3b0); (try simp only [beq_iff_eq, bne_iff_ne, ne_eq, decide_eq_true_eq, decide_eq_false_iff_not, decide_eq_decide, bne_eq_false_iff_eq, beq_eq_false_iff_ne, Bool.not_eq_true, Bool.not_eq_false, Bool.not_eq_true', Bool.not_eq_false', Bool.true_beq, Bool.false_beq, Bool.true_bne, Bool.false_bne, Bool.bne_true, Bool.bne_false] at c4b0); (try simp only [beq_iff_eq, bne_iff_ne, ne_eq, decide_eq_true_eq, decide_eq_false_iff_not, decide_eq_decide, bne_eq_false_iff_eq, beq_eq_false_iff_ne, Bool.not_eq_true, Bool.not_eq_false, Bool.not_eq_true', Bool.not_eq_false', Bool.true_beq, Bool.false_beq, Bool.true_bne, Bool.false_bne, Bool.bne_true, Bool.bne_false] at c5b0); (try unfold wrap64 at *); omega)
                · replace c10 := Bool.eq_false_iff.mpr c10
                  subst c10
                  have H1 : (if x7_1 = true then (some ((⟨#[]⟩ : ByteArray), false)) else (hash_Prefix.l0 kj5 a1 (rdOf ByteArray.empty l0 x12_1) true l0 (l0.length : Int) (wrap64 (x12_1 + 1)))) = some (r1, r2) := by rw [if_neg (show ¬ (false = true) by decide)] at H; exact H
                  clear H
                  have H := H1
                  clear H1
                  by_cases c11 : x7_1 = true
                  · subst c11
                    have H1 : (some ((⟨#[]⟩ : ByteArray), false)) = some (r1, r2) := by rw [if_pos rfl] at H; exact H
                    clear H
                    have H := H1
                    clear H1
                    simp only [Option.some.injEq, Prod.mk.injEq] at H
                    obtain ⟨rfl, rfl⟩ := H
                    go_wp2
                    go_ret2
                    exact ⟨by first | rfl | (simp; done) | (simp [*]; done), by repeat (first | exact Drawn0.refl _ | apply Drawn0.step)⟩
                    all_goals (exfalso; (try simp only [beq_iff_eq, bne_iff_ne, ne_eq, decide_eq_true_eq, decide_eq_false_iff_not, decide_eq_decide, bne_eq_false_iff_eq, beq_eq_false_iff_ne, Bool.not_eq_true, Bool.not_eq_false, Bool.not_eq_true', Bool.not_eq_false', Bool.true_beq, Bool.false_beq, Bool.true_bne, Bool.false_bne, Bool.bne_true, Bool.bne_false] at c3b0); (try simp only [beq_iff_eq, bne_iff_ne, ne_eq, decide_eq_true_eq, decide_eq_false_iff_not, decide_eq_decide, bne_eq_false_iff_eq, beq_eq_false_iff_ne, Bool.not_eq_true, Bool.not_eq_false, Bool.not_eq_true', Bool.not_eq_false', Bool.true_beq, Bool.false_beq, Bool.true_bne, Bool.false_bne, Bool.bne_true, Bool.bne_false] at c4b0); (try simp only [beq_iff_eq, bne_iff_ne, ne_eq, decide_eq_true_eq, decide_eq_false_iff_not, decide_eq_decide, bne_eq_false_iff_eq, beq_eq_false_iff_ne, Bool.not_eq_true, Bool.not_eq_false, Bool.not_eq_true', Bool.not_eq_false', Bool.true_beq, Bool.false_beq, Bool.true_bne, Bool.false_bne, Bool.bne_true, Bool.bne_false] at c5b0); (try unfold wrap64 at *); omega)
                  · replace c11 := Bool.eq_false_iff.mpr c11
                    subst c11
                    have H1 : (hash_Prefix.l0 kj5 a1 (rdOf ByteArray.empty l0 x12_1) true l0 (l0.length : Int) (wrap64 (x12_1 + 1))) = some (r1, r2) := by rw [if_neg (show ¬ (false = true) by decide)] at H; exact H
                    clear H
                    have H := H1
                    clear H1
                    have H' := Aside0.mk H
                    clear H
                    go_wp2
                    go_roundg kj5
                    case measure => have := HK1.out; have := HJ5.out; omega
                    case rel => exact ⟨((rdOf ByteArray.empty l0 x12_1)), (true), (wrap64 (x12_1 + 1)), (by first | rfl | (simp; done) | (simp [*]; done)), (by first | rfl | (simp; done) | (simp [*]; done)), (by first | rfl | (simp; done) | (simp [*]; done)), H', ⟨by have := HK1.out; have := HJ5.out; omega⟩, by repeat (first | exact Drawn0.refl _ | apply Drawn0.step)⟩
                    all_goals (exfalso; (try simp only [beq_iff_eq, bne_iff_ne, ne_eq, decide_eq_true_eq, decide_eq_false_iff_not, decide_eq_decide, bne_eq_false_iff_eq, beq_eq_false_iff_ne, Bool.not_eq_true, Bool.not_eq_false, Bool.not_eq_true', Bool.not_eq_false', Bool.true_beq, Bool.false_beq, Bool.true_bne, Bool.false_bne, Bool.bne_true, Bool.bne_false] at c3b0); (try simp only [beq_iff_eq, bne_iff_ne, ne_eq, decide_eq_true_eq, decide_eq_false_iff_not, decide_eq_decide, bne_eq_false_iff_eq, beq_eq_false_iff_ne, Bool.not_eq_true, Bool.not_eq_false, Bool.not_eq_true', Bool.not_eq_false', Bool.true_beq, Bool.false_beq, Bool.true_bne, Bool.false_bne, Bool.bne_true, Bool.bne_false] at c4b0); (try simp only [beq_iff_eq, bne_iff_ne, ne_eq, decide_eq_true_eq, decide_eq_false_iff_not, decide_eq_decide, bne_eq_false_iff_eq, beq_eq_false_iff_ne, Bool.not_eq_true, Bool.not_eq_false, Bool.not_eq_true', Bool.not_eq_false', Bool.true_beq, Bool.false_beq, Bool.true_bne, Bool.false_bne, Bool.bne_true, Bool.bne_false] at c5b0); (try unfold wrap64 at *); omega)
          · rw [if_neg c5] at H
            exact absurd H (by simp)
        · rw [if_neg c4] at H
          exact absurd H (by simp)
      · rw [if_neg c3] at H
        have c3b0 : decide (x12_1 < (l0.length : Int)) = false := decide_eq_false c3
        clear c3
        by_cases c12 : (a1.size : Int) < 4
        · rw [if_pos c12] at H
          have c12b0 : decide ((a1.size : Int) < 4) = true := decide_eq_true c12
          have c12b1 : decide (a1.size < 4) = true := decide_eq_true (by omega)
          clear c12
          simp only [Option.some.injEq, Prod.mk.injEq] at H
          obtain ⟨rfl, rfl⟩ := H
          go_wp2
          go_ret2
          exact ⟨by first | rfl | (simp; done) | (simp [*]; done), by repeat (first | exact Drawn0.refl _ | apply Drawn0.step)⟩
          all_goals (exfalso; (try simp only [beq_iff_eq, bne_iff_ne, ne_eq, decide_eq_true_eq, decide_eq_false_iff_not, decide_eq_decide, bne_eq_false_iff_eq, beq_eq_false_iff_ne, Bool.not_eq_true, Bool.not_eq_false, Bool.not_eq_true', Bool.not_eq_false', Bool.true_beq, Bool.false_beq, Bool.true_bne, Bool.false_bne, Bool.bne_true, Bool.bne_false] at c3b0); (try simp only [beq_iff_eq, bne_iff_ne, ne_eq, decide_eq_true_eq, decide_eq_false_iff_not, decide_eq_decide, bne_eq_false_iff_eq, beq_eq_false_iff_ne, Bool.not_eq_true, Bool.not_eq_false, Bool.not_eq_true', Bool.not_eq_false', Bool.true_beq, Bool.false_beq, Bool.true_bne, Bool.false_bne, Bool.bne_true, Bool.bne_false] at c12b0); (try simp only [beq_iff_eq, bne_iff_ne, ne_eq, decide_eq_true_eq, decide_eq_false_iff_not, decide_eq_decide, bne_eq_false_iff_eq, beq_eq_false_iff_ne, Bool.not_eq_true, Bool.not_eq_false, Bool.not_eq_true', Bool.not_eq_false', Bool.true_beq, Bool.false_beq, Bool.true_bne, Bool.false_bne, Bool.bne_true, Bool.bne_false] at c12b1); (try unfold wrap64 at *); omega)
        · rw [if_neg c12] at H
          have c12b0 : decide ((a1.size : Int) < 4) = false := decide_eq_false c12
          have c12b1 : decide (a1.size < 4) = false := decide_eq_false (by omega)
          clear c12
          simp only [Option.some.injEq, Prod.mk.injEq] at H
          obtain ⟨rfl, rfl⟩ := H
          go_wp2
          go_ret2
          exact ⟨by first | rfl | (simp; done) | (simp [*]; done), by repeat (first | exact Drawn0.refl _ | apply Drawn0.step)⟩
          all_goals (exfalso; (try simp only [beq_iff_eq, bne_iff_ne, ne_eq, decide_eq_true_eq, decide_eq_false_iff_not, decide_eq_decide, bne_eq_false_iff_eq, beq_eq_false_iff_ne, Bool.not_eq_true, Bool.not_eq_false, Bool.not_eq_true', Bool.not_eq_false', Bool.true_beq, Bool.false_beq, Bool.true_bne, Bool.false_bne, Bool.bne_true, Bool.bne_false] at c3b0); (try simp only [beq_iff_eq, bne_iff_ne, ne_eq, decide_eq_true_eq, decide_eq_false_iff_not, decide_eq_decide, bne_eq_false_iff_eq, beq_eq_false_iff_ne, Bool.not_eq_true, Bool.not_eq_false, Bool.not_eq_true', Bool.not_eq_false', Bool.true_beq, Bool.false_beq, Bool.true_bne, Bool.false_bne, Bool.bne_true, Bool.bne_false] at c12b0); (try simp only [beq_iff_eq, bne_iff_ne, ne_eq, decide_eq_true_eq, decide_eq_false_iff_not, decide_eq_decide, bne_eq_false_iff_eq, beq_eq_false_iff_ne, Bool.not_eq_true, Bool.not_eq_false, Bool.not_eq_true', Bool.not_eq_false', Bool.true_beq, Bool.false_beq, Bool.true_bne, Bool.false_bne, Bool.bne_true, Bool.bne_false] at c12b1); (try unfold wrap64 at *); omega)

-- NOT PRINTED: function 9 (ammonitelaw1_HashFinds)

-- NOT PRINTED: function 10 (ammonitelaw1_HashParts)

end Go.Proofs.Ytcjkichimndioab.Q
