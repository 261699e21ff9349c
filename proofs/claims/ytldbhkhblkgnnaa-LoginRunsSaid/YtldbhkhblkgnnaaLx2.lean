-- Written by a program of this session (wip/tools/ap.py) for this claim.
import Derived.Test.YtldbhkhblkgnnaaLx0
import Derived.Test.YtldbhkhblkgnnaaLx1
namespace Go.Proofs.Ytldbhkhblkgnnaa.Q
open Go.Proofs.Ytldbhkhblkgnnaa.Given
open Go.RowKit Go.Proofs.Ytldbhkhblkgnnaa.PW Go.Proofs.YtldbhkhblkgnnaaW.PrintWords Go.Proofs.YtldbhkhblkgnnaaW.PrintLast Go.Proofs.YtldbhkhblkgnnaaW.PrintMore
attribute [local go_sem] max2_int min2_int max_two min_two max_three min_three max_four min_four   -- for this text's walks alone
set_option linter.unnecessarySimpa false
attribute [local go_sem high] run_cut_if run_cut_from run_cut_to run_cat_if
set_option linter.unusedVariables false
set_option linter.unusedSimpArgs false

theorem zqka60_ {p : Prop} (h : p := by (with_reducible repeat (first | refine blk_drewN ?_ _ | refine blk_drew ?_ | refine blk_alloc ?_ _)); exact BK112.out) : p := h
theorem zqka61_ {p : Prop} (h : p := by repeat (first | (with_reducible first | exact HB.out | apply below_alloc | apply pw_below_drewN | apply below_drew1 | refine below_set ?_ GE112.out | refine below_set ?_ GE113.out) | exact HB.out)) : p := h
theorem zqka62_ {p : Prop} (h : p := by (with_reducible repeat (first | refine blk_drewN ?_ _ | refine blk_drew ?_ | refine blk_alloc ?_ _)); exact BK113.out) : p := h
theorem zqka63_ {p : Prop} (h : p := by repeat (first | (with_reducible first | exact HB.out | apply below_alloc | apply pw_below_drewN | apply below_drew1 | refine below_set ?_ GE112.out) | exact HB.out)) : p := h
theorem zqka64_ {p : Prop} (h : p := by repeat (first | (with_reducible first | exact HB.out | apply below_alloc | apply pw_below_drewN | apply below_drew1) | exact HB.out)) : p := h
theorem zqka65_ {p : Prop} (h : p := by first | (with_reducible assumption) | assumption) : p := h
theorem zqka66_ {p : Prop} (h : p := by repeat (first | (with_reducible first | exact HB.out | apply below_alloc | apply pw_below_drewN | apply below_drew1 | refine below_set ?_ GE112.out | refine below_set ?_ GE113.out | refine below_set ?_ GE115.out) | exact HB.out)) : p := h
abbrev zbka60_ : Array Bool := #[false, false, false, false, false, false, false, false, false, false, false, false, false, false, false, false]
abbrev zbka61_ : Array Bool := #[true, false, false, false, false, false, false, false, false, false, false, false, false, false, false, false]
abbrev zbka62_ : Array Bool := #[true, false, true, false, false, false, false, false, false, false, false, false, false, false, false, false]
abbrev zbka63_ : Array Bool := #[true, true, true, false, false, false, false, false, false, false, false, false, false, false, false, false]
abbrev zbka64_ : Array Bool := #[true, true, true, true, false, false, false, false, false, false, false, false, false, false, false, false]
abbrev zbka65_ : Array Bool := #[true, true, true, true, true, false, false, false, false, false, false, false, false, false, false, false]
abbrev zbka66_ : Array Bool := #[true, true, true, true, true, true, false, false, false, false, false, false, false, false, false, false]
abbrev zbka67_ : Array Bool := #[true, true, true, true, true, true, true, false, false, false, false, false, false, false, false, false]
abbrev zbka68_ : Array Bool := #[true, true, true, true, true, true, true, true, true, true, true, true, true, true, false, false]
abbrev zbka69_ : Array Bool := #[true, true, true, true, true, true, true, true, true, true, true, true, true, true, true, false]
abbrev zbka610_ : Array Bool := #[true, true, true, true, true, true, true, true, true, true, true, true, true, true, true, true]
/-! ### login_Check: function 8 -/
def login_Check.l0 : Nat → List (S23) → Int → Int → ByteArray → ByteArray → Int → Bool → Bool → Bool → List ByteArray → List ByteArray → List (S46) → Int → Option (ByteArray × ByteArray × Bool × Bool × Bool)
  | 0, _, _, _, _, _, _, _, _, _, _, _, _, _ => none
  | k + 1, x12, x13, x14, x113000, x113001, x113002, x113003, x113004, x113005, x113006, x113007, x113008, x113009 => if x14 < x13 then (if 0 ≤ x14 then (if x14 < (x12.length : Int) then (if ((rd_T23 x12 x14).f0).toList = x113000.toList then ((login_Sig.f ((rd_T23 x12 x14).f0) ((rd_T23 x12 x14).f1) x113000 x113001 x113002 x113003 x113004 x113005 x113006 x113007 x113008 x113009).bind fun t116 => (if t116.toList = x113001.toList then (some ((rd_T23 x12 x14).f0, (rd_T23 x12 x14).f1, (rd_T23 x12 x14).f2, (rd_T23 x12 x14).f3, true)) else (login_Check.l0 k x12 x13 (wrap64 (x14 + 1)) x113000 x113001 x113002 x113003 x113004 x113005 x113006 x113007 x113008 x113009))) else (login_Check.l0 k x12 x13 (wrap64 (x14 + 1)) x113000 x113001 x113002 x113003 x113004 x113005 x113006 x113007 x113008 x113009)) else (none)) else (none)) else (some ((⟨#[]⟩ : ByteArray), (⟨#[]⟩ : ByteArray), false, false, false))
def login_Check.f (k : Nat) (l0 : List (S23)) (a1_0 : ByteArray) (a1_1 : ByteArray) (a1_2 : Int) (a1_3 : Bool) (a1_4 : Bool) (a1_5 : Bool) (l1_6 : List ByteArray) (l1_7 : List ByteArray) (l1_8 : List (S46)) (a1_9 : Int) : Option (ByteArray × ByteArray × Bool × Bool × Bool) := if a1_1.toList = ([] : List UInt8) then (some ((⟨#[]⟩ : ByteArray), (⟨#[]⟩ : ByteArray), false, false, false)) else (login_Check.l0 k l0 (l0.length : Int) 0 a1_0 a1_1 a1_2 a1_3 a1_4 a1_5 l1_6 l1_7 l1_8 a1_9)
theorem login_Check.mono_l : ∀ k, (∀ y0 y1 y2 y3 y4 y5 y6 y7 y8 y9 y10 y11 y12, LeO (login_Check.l0 k y0 y1 y2 y3 y4 y5 y6 y7 y8 y9 y10 y11 y12) (login_Check.l0 (k + 1) y0 y1 y2 y3 y4 y5 y6 y7 y8 y9 y10 y11 y12))
  | 0 => fun _ _ _ _ _ _ _ _ _ _ _ _ _ r h => by simp [login_Check.l0] at h
  | k + 1 => by
    have ih0 := login_Check.mono_l k
    · intro y0 y1 y2 y3 y4 y5 y6 y7 y8 y9 y10 y11 y12
      unfold login_Check.l0
      repeat' first
      | (with_reducible exact ih0 _ _ _ _ _ _ _ _ _ _ _ _ _)
      | (with_reducible exact LeO.refl _)
      | (with_reducible exact LeO.none _)
      | (with_reducible refine LeO.ite ?_ ?_)
      | (with_reducible refine LeO.bind ?_ (fun _ => ?_))
      | exact ih0 _ _ _ _ _ _ _ _ _ _ _ _ _
      | exact LeO.none _
      | refine LeO.ite ?_ ?_
      | refine LeO.bind ?_ (fun _ => ?_)
theorem login_Check.mono : ∀ a0 a1 a2 a3 a4 a5 a6 a7 a8 a9 a10 k, LeO (login_Check.f k a0 a1 a2 a3 a4 a5 a6 a7 a8 a9 a10) (login_Check.f (k + 1) a0 a1 a2 a3 a4 a5 a6 a7 a8 a9 a10) := by
  intro a0 a1 a2 a3 a4 a5 a6 a7 a8 a9 a10 k
  have ih0 := login_Check.mono_l k
  unfold login_Check.f
  repeat' first
      | (with_reducible exact ih0 _ _ _ _ _ _ _ _ _ _ _ _ _)
      | (with_reducible exact LeO.refl _)
      | (with_reducible exact LeO.none _)
      | (with_reducible refine LeO.ite ?_ ?_)
      | (with_reducible refine LeO.bind ?_ (fun _ => ?_))
      | exact ih0 _ _ _ _ _ _ _ _ _ _ _ _ _
      | exact LeO.none _
      | refine LeO.ite ?_ ?_
      | refine LeO.bind ?_ (fun _ => ?_)
def login_Check.T6 : Bool × List (List Nat × List Nat) := (true, [([], []), ([0], [0]), ([], []), ([2], [2]), ([1, 3], [1, 3]), ([4], [4]), ([5], [5]), ([6, 5], [5, 6]), ([5], [5]), ([8, 5], [5, 8]), ([5], [5]), ([7, 9, 10, 5, 5], [5, 7, 9, 10]), ([5], [5]), ([12, 5], [5, 12]), ([11, 13, 5], [5, 11, 13]), ([5, 14], [5, 14])])
def login_Check.B6 : List Nat := [0, 1, 0, 4, 15, 31, 63, 127, 63, 319, 63, 2047, 63, 4159, 16383, 32767]
theorem login_Check.tab6 : rtab .any (opsOf Try.f8 6) = login_Check.T6 := by kernel_rfl
theorem login_Check.bits6 : waitsOk login_Check.T6.2 login_Check.B6 = true := by kernel_rfl
set_option maxHeartbeats 8000000 in
set_option maxRecDepth 100000 in
theorem login_Check.calls (k : Nat) (A0 : Option Addr) (c0 : Nat) (l0 : List (S23)) (a1_0 : ByteArray) (a1_1 : ByteArray) (a1_2 : Int) (a1_3 : Bool) (a1_4 : Bool) (a1_5 : Bool) (A1_6 : Option Addr) (c1_6 : Nat) (l1_6 : List ByteArray) (A1_7 : Option Addr) (c1_7 : Nat) (l1_7 : List ByteArray) (A1_8 : Option Addr) (c1_8 : Nat) (l1_8 : List (S46)) (a1_9 : Int) (r1 : ByteArray) (r2 : ByteArray) (r3 : Bool) (r4 : Bool) (r5 : Bool) (w : World) (hr0 : Kd.C k23 w A0 l0.length l0) (hc0 : l0.length ≤ c0) (hr1_6 : Kd.C Kd.string w A1_6 l1_6.length l1_6) (hc1_6 : l1_6.length ≤ c1_6) (hr1_7 : Kd.C Kd.string w A1_7 l1_7.length l1_7) (hc1_7 : l1_7.length ≤ c1_7) (hr1_8 : Kd.C k46 w A1_8 l1_8.length l1_8) (hc1_8 : l1_8.length ≤ c1_8) (h : login_Check.f k l0 a1_0 a1_1 a1_2 a1_3 a1_4 a1_5 l1_6 l1_7 l1_8 a1_9 = some (r1, r2, r3, r4, r5)) :
    Calls Try.prog 8 #[.slice A0 l0.length c0, .agg #[.string a1_0, .string a1_1, .int .i64 a1_2, .bool a1_3, .bool a1_4, .bool a1_5, .slice A1_6 l1_6.length c1_6, .slice A1_7 l1_7.length c1_7, .slice A1_8 l1_8.length c1_8, .int .i64 a1_9]] w fun e w' => e = .returned (.tuple #[.agg #[.string r1, .string r2, .bool r3, .bool r4], .bool r5]) ∧ Below w.heap.size w w' := by
  have hu28 := Try.underlying28
  have hu23 := Try.underlying23
  have HR0 := Aside0.mk hr0
  have HC0 := Aside0.mk hc0
  clear hr0 hc0
  have HR1_6 := Aside0.mk hr1_6
  have HC1_6 := Aside0.mk hc1_6
  clear hr1_6 hc1_6
  have HR1_7 := Aside0.mk hr1_7
  have HC1_7 := Aside0.mk hc1_7
  clear hr1_7 hc1_7
  have HR1_8 := Aside0.mk hr1_8
  have HC1_8 := Aside0.mk hc1_8
  clear hr1_8 hc1_8
  have HB := Aside0.mk (Below.refl w.heap.size w)
  have H : (if a1_1.toList = ([] : List UInt8) then (some ((⟨#[]⟩ : ByteArray), (⟨#[]⟩ : ByteArray), false, false, false)) else (login_Check.l0 k l0 (l0.length : Int) 0 a1_0 a1_1 a1_2 a1_3 a1_4 a1_5 l1_6 l1_7 l1_8 a1_9)) = some (r1, r2, r3, r4, r5) := h
  clear h
  by_cases c3 : a1_1.toList = ([] : List UInt8)
  · rw [if_pos c3] at H
    have c3b0 : (a1_1.toList == ([] : List UInt8)) = true := beq_iff_eq.mpr c3
    have c3b1 : (a1_1.toList != ([] : List UInt8)) = false := bne_eq_false_iff_eq.mpr c3
    clear c3
    simp only [Option.some.injEq, Prod.mk.injEq] at H
    obtain ⟨rfl, rfl, rfl, rfl, rfl⟩ := H
    go_enter Try.func8, Try.ntmps8
    try go_wp2_with (first | ((with_reducible refine gate_dst (N := 3) rfl ?_); refine box_event ?hg (N := 3) ?hd (cs := #[.string a1_0, .string a1_1, .int .i64 a1_2, .bool a1_3, .bool a1_4, .bool a1_5, .slice A1_6 l1_6.length c1_6, .slice A1_7 l1_7.length c1_7, .slice A1_8 l1_8.length c1_8, .int .i64 a1_9]) (t := 28) ?hr ?_; (case hd => rfl); (case hg => rfl); (case hr => first | (go_simp; done) | (go_simp; rfl) | (go_simp; congr 4; (try congr 1); (try simp only [IntKind.wrap_u8, IntKind.wrap_u32]); (try unfold wrap64); omega)); intro gb112 hg w4 hbox hb; have n0_ := Aside0.mk (below_step zqka64_ hb); have n1_ := Aside0.mk (hbox); have n2_ := Aside0.mk ((by rw [hg]; exact (below_size zqka64_) : w.heap.size ≤ gb112)); have n3_ := Aside0.mk ((by rw [hg]; exact (below_size zqka64_) : w.heap.size ≤ gb112)); clear HB; have HB := n0_; have BK112 := n1_; have GW112 := n2_; have GE112 := n3_; clear n0_ n1_ n2_ n3_; clear hb hbox hg) | ((with_reducible refine gate_dst (N := 4) rfl ?_); refine box_event ?hg (N := 4) ?hd (cs := #[.string (⟨#[]⟩ : ByteArray), .string (⟨#[]⟩ : ByteArray), .bool false, .bool false]) (t := 23) ?hr ?_; (case hd => rfl); (case hg => rfl); (case hr => first | (go_simp; done) | (go_simp; rfl) | (go_simp; congr 4; (try congr 1); (try simp only [IntKind.wrap_u8, IntKind.wrap_u32]); (try unfold wrap64); omega)); intro gb113 hg w5 hbox hb; have n0_ := Aside0.mk (blk_below (g := gb112) (o := .cells #[.string a1_0, .string a1_1, .int .i64 a1_2, .bool a1_3, .bool a1_4, .bool a1_5, .slice A1_6 l1_6.length c1_6, .slice A1_7 l1_7.length c1_7, .slice A1_8 l1_8.length c1_8, .int .i64 a1_9] 28 (0, 0)) zqka60_ hb); have n1_ := Aside0.mk (below_step zqka63_ hb); have n2_ := Aside0.mk (hbox); have n3_ := Aside0.mk ((by rw [hg]; exact (below_size zqka63_) : w.heap.size ≤ gb113)); have n4_ := Aside0.mk ((by rw [hg]; exact (below_size zqka63_) : w.heap.size ≤ gb113)); have n5_ := Aside0.mk ((by rw [hg]; exact Nat.ne_of_lt (blk_lt (g := gb112) (o := .cells #[.string a1_0, .string a1_1, .int .i64 a1_2, .bool a1_3, .bool a1_4, .bool a1_5, .slice A1_6 l1_6.length c1_6, .slice A1_7 l1_7.length c1_7, .slice A1_8 l1_8.length c1_8, .int .i64 a1_9] 28 (0, 0)) zqka60_) : gb112 ≠ gb113)); have n6_ := Aside0.mk ((by rw [hg]; exact Nat.ne_of_gt (blk_lt (g := gb112) (o := .cells #[.string a1_0, .string a1_1, .int .i64 a1_2, .bool a1_3, .bool a1_4, .bool a1_5, .slice A1_6 l1_6.length c1_6, .slice A1_7 l1_7.length c1_7, .slice A1_8 l1_8.length c1_8, .int .i64 a1_9] 28 (0, 0)) zqka60_) : gb113 ≠ gb112)); clear BK112; clear HB; have BK112 := n0_; have HB := n1_; have BK113 := n2_; have GW113 := n3_; have GE113 := n4_; have NB112_113 := n5_; have NB113_112 := n6_; clear n0_ n1_ n2_ n3_ n4_ n5_ n6_; clear hb hbox hg; have hnb6 := NB112_113.out; have hnc6 := NB113_112.out; have hcz7_0 : w5.cell? ⟨gb112, 0, none⟩ = some (.string a1_0) := (blk_cell BK112.out 0).trans rfl; have hcz7_1 : w5.cell? ⟨gb112, 1, none⟩ = some (.string a1_1) := (blk_cell BK112.out 1).trans rfl; have hcz7_2 : w5.cell? ⟨gb112, 2, none⟩ = some (.int .i64 a1_2) := (blk_cell BK112.out 2).trans rfl; have hcz7_3 : w5.cell? ⟨gb112, 3, none⟩ = some (.bool a1_3) := (blk_cell BK112.out 3).trans rfl; have hcz7_4 : w5.cell? ⟨gb112, 4, none⟩ = some (.bool a1_4) := (blk_cell BK112.out 4).trans rfl; have hcz7_5 : w5.cell? ⟨gb112, 5, none⟩ = some (.bool a1_5) := (blk_cell BK112.out 5).trans rfl; have hcz7_6 : w5.cell? ⟨gb112, 6, none⟩ = some (.slice A1_6 l1_6.length c1_6) := (blk_cell BK112.out 6).trans rfl; have hcz7_7 : w5.cell? ⟨gb112, 7, none⟩ = some (.slice A1_7 l1_7.length c1_7) := (blk_cell BK112.out 7).trans rfl; have hcz7_8 : w5.cell? ⟨gb112, 8, none⟩ = some (.slice A1_8 l1_8.length c1_8) := (blk_cell BK112.out 8).trans rfl; have hcz7_9 : w5.cell? ⟨gb112, 9, none⟩ = some (.int .i64 a1_9) := (blk_cell BK112.out 9).trans rfl; have hfz7_0 := blk_frozen BK112.out 0; have hfz7_1 := blk_frozen BK112.out 1; have hfz7_2 := blk_frozen BK112.out 2; have hfz7_3 := blk_frozen BK112.out 3; have hfz7_4 := blk_frozen BK112.out 4; have hfz7_5 := blk_frozen BK112.out 5; have hfz7_6 := blk_frozen BK112.out 6; have hfz7_7 := blk_frozen BK112.out 7; have hfz7_8 := blk_frozen BK112.out 8; have hfz7_9 := blk_frozen BK112.out 9; have hcz8_0 : w5.cell? ⟨gb113, 0, none⟩ = some (.string (⟨#[]⟩ : ByteArray)) := (blk_cell BK113.out 0).trans rfl; have hcz8_1 : w5.cell? ⟨gb113, 1, none⟩ = some (.string (⟨#[]⟩ : ByteArray)) := (blk_cell BK113.out 1).trans rfl; have hcz8_2 : w5.cell? ⟨gb113, 2, none⟩ = some (.bool false) := (blk_cell BK113.out 2).trans rfl; have hcz8_3 : w5.cell? ⟨gb113, 3, none⟩ = some (.bool false) := (blk_cell BK113.out 3).trans rfl; have hfz8_0 := blk_frozen BK113.out 0; have hfz8_1 := blk_frozen BK113.out 1; have hfz8_2 := blk_frozen BK113.out 2; have hfz8_3 := blk_frozen BK113.out 3))
    repeat (first | (go_step3; try go_wp2_with (first | ((with_reducible refine gate_dst (N := 3) rfl ?_); refine box_event ?hg (N := 3) ?hd (cs := #[.string a1_0, .string a1_1, .int .i64 a1_2, .bool a1_3, .bool a1_4, .bool a1_5, .slice A1_6 l1_6.length c1_6, .slice A1_7 l1_7.length c1_7, .slice A1_8 l1_8.length c1_8, .int .i64 a1_9]) (t := 28) ?hr ?_; (case hd => rfl); (case hg => rfl); (case hr => first | (go_simp; done) | (go_simp; rfl) | (go_simp; congr 4; (try congr 1); (try simp only [IntKind.wrap_u8, IntKind.wrap_u32]); (try unfold wrap64); omega)); intro gb112 hg w4 hbox hb; have n0_ := Aside0.mk (below_step zqka64_ hb); have n1_ := Aside0.mk (hbox); have n2_ := Aside0.mk ((by rw [hg]; exact (below_size zqka64_) : w.heap.size ≤ gb112)); have n3_ := Aside0.mk ((by rw [hg]; exact (below_size zqka64_) : w.heap.size ≤ gb112)); clear HB; have HB := n0_; have BK112 := n1_; have GW112 := n2_; have GE112 := n3_; clear n0_ n1_ n2_ n3_; clear hb hbox hg) | ((with_reducible refine gate_dst (N := 4) rfl ?_); refine box_event ?hg (N := 4) ?hd (cs := #[.string (⟨#[]⟩ : ByteArray), .string (⟨#[]⟩ : ByteArray), .bool false, .bool false]) (t := 23) ?hr ?_; (case hd => rfl); (case hg => rfl); (case hr => first | (go_simp; done) | (go_simp; rfl) | (go_simp; congr 4; (try congr 1); (try simp only [IntKind.wrap_u8, IntKind.wrap_u32]); (try unfold wrap64); omega)); intro gb113 hg w5 hbox hb; have n0_ := Aside0.mk (blk_below (g := gb112) (o := .cells #[.string a1_0, .string a1_1, .int .i64 a1_2, .bool a1_3, .bool a1_4, .bool a1_5, .slice A1_6 l1_6.length c1_6, .slice A1_7 l1_7.length c1_7, .slice A1_8 l1_8.length c1_8, .int .i64 a1_9] 28 (0, 0)) zqka60_ hb); have n1_ := Aside0.mk (below_step zqka63_ hb); have n2_ := Aside0.mk (hbox); have n3_ := Aside0.mk ((by rw [hg]; exact (below_size zqka63_) : w.heap.size ≤ gb113)); have n4_ := Aside0.mk ((by rw [hg]; exact (below_size zqka63_) : w.heap.size ≤ gb113)); have n5_ := Aside0.mk ((by rw [hg]; exact Nat.ne_of_lt (blk_lt (g := gb112) (o := .cells #[.string a1_0, .string a1_1, .int .i64 a1_2, .bool a1_3, .bool a1_4, .bool a1_5, .slice A1_6 l1_6.length c1_6, .slice A1_7 l1_7.length c1_7, .slice A1_8 l1_8.length c1_8, .int .i64 a1_9] 28 (0, 0)) zqka60_) : gb112 ≠ gb113)); have n6_ := Aside0.mk ((by rw [hg]; exact Nat.ne_of_gt (blk_lt (g := gb112) (o := .cells #[.string a1_0, .string a1_1, .int .i64 a1_2, .bool a1_3, .bool a1_4, .bool a1_5, .slice A1_6 l1_6.length c1_6, .slice A1_7 l1_7.length c1_7, .slice A1_8 l1_8.length c1_8, .int .i64 a1_9] 28 (0, 0)) zqka60_) : gb113 ≠ gb112)); clear BK112; clear HB; have BK112 := n0_; have HB := n1_; have BK113 := n2_; have GW113 := n3_; have GE113 := n4_; have NB112_113 := n5_; have NB113_112 := n6_; clear n0_ n1_ n2_ n3_ n4_ n5_ n6_; clear hb hbox hg; have hnb6 := NB112_113.out; have hnc6 := NB113_112.out; have hcz7_0 : w5.cell? ⟨gb112, 0, none⟩ = some (.string a1_0) := (blk_cell BK112.out 0).trans rfl; have hcz7_1 : w5.cell? ⟨gb112, 1, none⟩ = some (.string a1_1) := (blk_cell BK112.out 1).trans rfl; have hcz7_2 : w5.cell? ⟨gb112, 2, none⟩ = some (.int .i64 a1_2) := (blk_cell BK112.out 2).trans rfl; have hcz7_3 : w5.cell? ⟨gb112, 3, none⟩ = some (.bool a1_3) := (blk_cell BK112.out 3).trans rfl; have hcz7_4 : w5.cell? ⟨gb112, 4, none⟩ = some (.bool a1_4) := (blk_cell BK112.out 4).trans rfl; have hcz7_5 : w5.cell? ⟨gb112, 5, none⟩ = some (.bool a1_5) := (blk_cell BK112.out 5).trans rfl; have hcz7_6 : w5.cell? ⟨gb112, 6, none⟩ = some (.slice A1_6 l1_6.length c1_6) := (blk_cell BK112.out 6).trans rfl; have hcz7_7 : w5.cell? ⟨gb112, 7, none⟩ = some (.slice A1_7 l1_7.length c1_7) := (blk_cell BK112.out 7).trans rfl; have hcz7_8 : w5.cell? ⟨gb112, 8, none⟩ = some (.slice A1_8 l1_8.length c1_8) := (blk_cell BK112.out 8).trans rfl; have hcz7_9 : w5.cell? ⟨gb112, 9, none⟩ = some (.int .i64 a1_9) := (blk_cell BK112.out 9).trans rfl; have hfz7_0 := blk_frozen BK112.out 0; have hfz7_1 := blk_frozen BK112.out 1; have hfz7_2 := blk_frozen BK112.out 2; have hfz7_3 := blk_frozen BK112.out 3; have hfz7_4 := blk_frozen BK112.out 4; have hfz7_5 := blk_frozen BK112.out 5; have hfz7_6 := blk_frozen BK112.out 6; have hfz7_7 := blk_frozen BK112.out 7; have hfz7_8 := blk_frozen BK112.out 8; have hfz7_9 := blk_frozen BK112.out 9; have hcz8_0 : w5.cell? ⟨gb113, 0, none⟩ = some (.string (⟨#[]⟩ : ByteArray)) := (blk_cell BK113.out 0).trans rfl; have hcz8_1 : w5.cell? ⟨gb113, 1, none⟩ = some (.string (⟨#[]⟩ : ByteArray)) := (blk_cell BK113.out 1).trans rfl; have hcz8_2 : w5.cell? ⟨gb113, 2, none⟩ = some (.bool false) := (blk_cell BK113.out 2).trans rfl; have hcz8_3 : w5.cell? ⟨gb113, 3, none⟩ = some (.bool false) := (blk_cell BK113.out 3).trans rfl; have hfz8_0 := blk_frozen BK113.out 0; have hfz8_1 := blk_frozen BK113.out 1; have hfz8_2 := blk_frozen BK113.out 2; have hfz8_3 := blk_frozen BK113.out 3))) | (go_quiet (first | ((with_reducible refine gate_dst (N := 3) rfl ?_); refine box_event ?hg (N := 3) ?hd (cs := #[.string a1_0, .string a1_1, .int .i64 a1_2, .bool a1_3, .bool a1_4, .bool a1_5, .slice A1_6 l1_6.length c1_6, .slice A1_7 l1_7.length c1_7, .slice A1_8 l1_8.length c1_8, .int .i64 a1_9]) (t := 28) ?hr ?_; (case hd => rfl); (case hg => rfl); (case hr => first | (go_simp; done) | (go_simp; rfl) | (go_simp; congr 4; (try congr 1); (try simp only [IntKind.wrap_u8, IntKind.wrap_u32]); (try unfold wrap64); omega)); intro gb112 hg w4 hbox hb; have n0_ := Aside0.mk (below_step zqka64_ hb); have n1_ := Aside0.mk (hbox); have n2_ := Aside0.mk ((by rw [hg]; exact (below_size zqka64_) : w.heap.size ≤ gb112)); have n3_ := Aside0.mk ((by rw [hg]; exact (below_size zqka64_) : w.heap.size ≤ gb112)); clear HB; have HB := n0_; have BK112 := n1_; have GW112 := n2_; have GE112 := n3_; clear n0_ n1_ n2_ n3_; clear hb hbox hg) | ((with_reducible refine gate_dst (N := 4) rfl ?_); refine box_event ?hg (N := 4) ?hd (cs := #[.string (⟨#[]⟩ : ByteArray), .string (⟨#[]⟩ : ByteArray), .bool false, .bool false]) (t := 23) ?hr ?_; (case hd => rfl); (case hg => rfl); (case hr => first | (go_simp; done) | (go_simp; rfl) | (go_simp; congr 4; (try congr 1); (try simp only [IntKind.wrap_u8, IntKind.wrap_u32]); (try unfold wrap64); omega)); intro gb113 hg w5 hbox hb; have n0_ := Aside0.mk (blk_below (g := gb112) (o := .cells #[.string a1_0, .string a1_1, .int .i64 a1_2, .bool a1_3, .bool a1_4, .bool a1_5, .slice A1_6 l1_6.length c1_6, .slice A1_7 l1_7.length c1_7, .slice A1_8 l1_8.length c1_8, .int .i64 a1_9] 28 (0, 0)) zqka60_ hb); have n1_ := Aside0.mk (below_step zqka63_ hb); have n2_ := Aside0.mk (hbox); have n3_ := Aside0.mk ((by rw [hg]; exact (below_size zqka63_) : w.heap.size ≤ gb113)); have n4_ := Aside0.mk ((by rw [hg]; exact (below_size zqka63_) : w.heap.size ≤ gb113)); have n5_ := Aside0.mk ((by rw [hg]; exact Nat.ne_of_lt (blk_lt (g := gb112) (o := .cells #[.string a1_0, .string a1_1, .int .i64 a1_2, .bool a1_3, .bool a1_4, .bool a1_5, .slice A1_6 l1_6.length c1_6, .slice A1_7 l1_7.length c1_7, .slice A1_8 l1_8.length c1_8, .int .i64 a1_9] 28 (0, 0)) zqka60_) : gb112 ≠ gb113)); have n6_ := Aside0.mk ((by rw [hg]; exact Nat.ne_of_gt (blk_lt (g := gb112) (o := .cells #[.string a1_0, .string a1_1, .int .i64 a1_2, .bool a1_3, .bool a1_4, .bool a1_5, .slice A1_6 l1_6.length c1_6, .slice A1_7 l1_7.length c1_7, .slice A1_8 l1_8.length c1_8, .int .i64 a1_9] 28 (0, 0)) zqka60_) : gb113 ≠ gb112)); clear BK112; clear HB; have BK112 := n0_; have HB := n1_; have BK113 := n2_; have GW113 := n3_; have GE113 := n4_; have NB112_113 := n5_; have NB113_112 := n6_; clear n0_ n1_ n2_ n3_ n4_ n5_ n6_; clear hb hbox hg; have hnb6 := NB112_113.out; have hnc6 := NB113_112.out; have hcz7_0 : w5.cell? ⟨gb112, 0, none⟩ = some (.string a1_0) := (blk_cell BK112.out 0).trans rfl; have hcz7_1 : w5.cell? ⟨gb112, 1, none⟩ = some (.string a1_1) := (blk_cell BK112.out 1).trans rfl; have hcz7_2 : w5.cell? ⟨gb112, 2, none⟩ = some (.int .i64 a1_2) := (blk_cell BK112.out 2).trans rfl; have hcz7_3 : w5.cell? ⟨gb112, 3, none⟩ = some (.bool a1_3) := (blk_cell BK112.out 3).trans rfl; have hcz7_4 : w5.cell? ⟨gb112, 4, none⟩ = some (.bool a1_4) := (blk_cell BK112.out 4).trans rfl; have hcz7_5 : w5.cell? ⟨gb112, 5, none⟩ = some (.bool a1_5) := (blk_cell BK112.out 5).trans rfl; have hcz7_6 : w5.cell? ⟨gb112, 6, none⟩ = some (.slice A1_6 l1_6.length c1_6) := (blk_cell BK112.out 6).trans rfl; have hcz7_7 : w5.cell? ⟨gb112, 7, none⟩ = some (.slice A1_7 l1_7.length c1_7) := (blk_cell BK112.out 7).trans rfl; have hcz7_8 : w5.cell? ⟨gb112, 8, none⟩ = some (.slice A1_8 l1_8.length c1_8) := (blk_cell BK112.out 8).trans rfl; have hcz7_9 : w5.cell? ⟨gb112, 9, none⟩ = some (.int .i64 a1_9) := (blk_cell BK112.out 9).trans rfl; have hfz7_0 := blk_frozen BK112.out 0; have hfz7_1 := blk_frozen BK112.out 1; have hfz7_2 := blk_frozen BK112.out 2; have hfz7_3 := blk_frozen BK112.out 3; have hfz7_4 := blk_frozen BK112.out 4; have hfz7_5 := blk_frozen BK112.out 5; have hfz7_6 := blk_frozen BK112.out 6; have hfz7_7 := blk_frozen BK112.out 7; have hfz7_8 := blk_frozen BK112.out 8; have hfz7_9 := blk_frozen BK112.out 9; have hcz8_0 : w5.cell? ⟨gb113, 0, none⟩ = some (.string (⟨#[]⟩ : ByteArray)) := (blk_cell BK113.out 0).trans rfl; have hcz8_1 : w5.cell? ⟨gb113, 1, none⟩ = some (.string (⟨#[]⟩ : ByteArray)) := (blk_cell BK113.out 1).trans rfl; have hcz8_2 : w5.cell? ⟨gb113, 2, none⟩ = some (.bool false) := (blk_cell BK113.out 2).trans rfl; have hcz8_3 : w5.cell? ⟨gb113, 3, none⟩ = some (.bool false) := (blk_cell BK113.out 3).trans rfl; have hfz8_0 := blk_frozen BK113.out 0; have hfz8_1 := blk_frozen BK113.out 1; have hfz8_2 := blk_frozen BK113.out 2; have hfz8_3 := blk_frozen BK113.out 3)); try go_wp2_with (first | ((with_reducible refine gate_dst (N := 3) rfl ?_); refine box_event ?hg (N := 3) ?hd (cs := #[.string a1_0, .string a1_1, .int .i64 a1_2, .bool a1_3, .bool a1_4, .bool a1_5, .slice A1_6 l1_6.length c1_6, .slice A1_7 l1_7.length c1_7, .slice A1_8 l1_8.length c1_8, .int .i64 a1_9]) (t := 28) ?hr ?_; (case hd => rfl); (case hg => rfl); (case hr => first | (go_simp; done) | (go_simp; rfl) | (go_simp; congr 4; (try congr 1); (try simp only [IntKind.wrap_u8, IntKind.wrap_u32]); (try unfold wrap64); omega)); intro gb112 hg w4 hbox hb; have n0_ := Aside0.mk (below_step zqka64_ hb); have n1_ := Aside0.mk (hbox); have n2_ := Aside0.mk ((by rw [hg]; exact (below_size zqka64_) : w.heap.size ≤ gb112)); have n3_ := Aside0.mk ((by rw [hg]; exact (below_size zqka64_) : w.heap.size ≤ gb112)); clear HB; have HB := n0_; have BK112 := n1_; have GW112 := n2_; have GE112 := n3_; clear n0_ n1_ n2_ n3_; clear hb hbox hg) | ((with_reducible refine gate_dst (N := 4) rfl ?_); refine box_event ?hg (N := 4) ?hd (cs := #[.string (⟨#[]⟩ : ByteArray), .string (⟨#[]⟩ : ByteArray), .bool false, .bool false]) (t := 23) ?hr ?_; (case hd => rfl); (case hg => rfl); (case hr => first | (go_simp; done) | (go_simp; rfl) | (go_simp; congr 4; (try congr 1); (try simp only [IntKind.wrap_u8, IntKind.wrap_u32]); (try unfold wrap64); omega)); intro gb113 hg w5 hbox hb; have n0_ := Aside0.mk (blk_below (g := gb112) (o := .cells #[.string a1_0, .string a1_1, .int .i64 a1_2, .bool a1_3, .bool a1_4, .bool a1_5, .slice A1_6 l1_6.length c1_6, .slice A1_7 l1_7.length c1_7, .slice A1_8 l1_8.length c1_8, .int .i64 a1_9] 28 (0, 0)) zqka60_ hb); have n1_ := Aside0.mk (below_step zqka63_ hb); have n2_ := Aside0.mk (hbox); have n3_ := Aside0.mk ((by rw [hg]; exact (below_size zqka63_) : w.heap.size ≤ gb113)); have n4_ := Aside0.mk ((by rw [hg]; exact (below_size zqka63_) : w.heap.size ≤ gb113)); have n5_ := Aside0.mk ((by rw [hg]; exact Nat.ne_of_lt (blk_lt (g := gb112) (o := .cells #[.string a1_0, .string a1_1, .int .i64 a1_2, .bool a1_3, .bool a1_4, .bool a1_5, .slice A1_6 l1_6.length c1_6, .slice A1_7 l1_7.length c1_7, .slice A1_8 l1_8.length c1_8, .int .i64 a1_9] 28 (0, 0)) zqka60_) : gb112 ≠ gb113)); have n6_ := Aside0.mk ((by rw [hg]; exact Nat.ne_of_gt (blk_lt (g := gb112) (o := .cells #[.string a1_0, .string a1_1, .int .i64 a1_2, .bool a1_3, .bool a1_4, .bool a1_5, .slice A1_6 l1_6.length c1_6, .slice A1_7 l1_7.length c1_7, .slice A1_8 l1_8.length c1_8, .int .i64 a1_9] 28 (0, 0)) zqka60_) : gb113 ≠ gb112)); clear BK112; clear HB; have BK112 := n0_; have HB := n1_; have BK113 := n2_; have GW113 := n3_; have GE113 := n4_; have NB112_113 := n5_; have NB113_112 := n6_; clear n0_ n1_ n2_ n3_ n4_ n5_ n6_; clear hb hbox hg; have hnb6 := NB112_113.out; have hnc6 := NB113_112.out; have hcz7_0 : w5.cell? ⟨gb112, 0, none⟩ = some (.string a1_0) := (blk_cell BK112.out 0).trans rfl; have hcz7_1 : w5.cell? ⟨gb112, 1, none⟩ = some (.string a1_1) := (blk_cell BK112.out 1).trans rfl; have hcz7_2 : w5.cell? ⟨gb112, 2, none⟩ = some (.int .i64 a1_2) := (blk_cell BK112.out 2).trans rfl; have hcz7_3 : w5.cell? ⟨gb112, 3, none⟩ = some (.bool a1_3) := (blk_cell BK112.out 3).trans rfl; have hcz7_4 : w5.cell? ⟨gb112, 4, none⟩ = some (.bool a1_4) := (blk_cell BK112.out 4).trans rfl; have hcz7_5 : w5.cell? ⟨gb112, 5, none⟩ = some (.bool a1_5) := (blk_cell BK112.out 5).trans rfl; have hcz7_6 : w5.cell? ⟨gb112, 6, none⟩ = some (.slice A1_6 l1_6.length c1_6) := (blk_cell BK112.out 6).trans rfl; have hcz7_7 : w5.cell? ⟨gb112, 7, none⟩ = some (.slice A1_7 l1_7.length c1_7) := (blk_cell BK112.out 7).trans rfl; have hcz7_8 : w5.cell? ⟨gb112, 8, none⟩ = some (.slice A1_8 l1_8.length c1_8) := (blk_cell BK112.out 8).trans rfl; have hcz7_9 : w5.cell? ⟨gb112, 9, none⟩ = some (.int .i64 a1_9) := (blk_cell BK112.out 9).trans rfl; have hfz7_0 := blk_frozen BK112.out 0; have hfz7_1 := blk_frozen BK112.out 1; have hfz7_2 := blk_frozen BK112.out 2; have hfz7_3 := blk_frozen BK112.out 3; have hfz7_4 := blk_frozen BK112.out 4; have hfz7_5 := blk_frozen BK112.out 5; have hfz7_6 := blk_frozen BK112.out 6; have hfz7_7 := blk_frozen BK112.out 7; have hfz7_8 := blk_frozen BK112.out 8; have hfz7_9 := blk_frozen BK112.out 9; have hcz8_0 : w5.cell? ⟨gb113, 0, none⟩ = some (.string (⟨#[]⟩ : ByteArray)) := (blk_cell BK113.out 0).trans rfl; have hcz8_1 : w5.cell? ⟨gb113, 1, none⟩ = some (.string (⟨#[]⟩ : ByteArray)) := (blk_cell BK113.out 1).trans rfl; have hcz8_2 : w5.cell? ⟨gb113, 2, none⟩ = some (.bool false) := (blk_cell BK113.out 2).trans rfl; have hcz8_3 : w5.cell? ⟨gb113, 3, none⟩ = some (.bool false) := (blk_cell BK113.out 3).trans rfl; have hfz8_0 := blk_frozen BK113.out 0; have hfz8_1 := blk_frozen BK113.out 1; have hfz8_2 := blk_frozen BK113.out 2; have hfz8_3 := blk_frozen BK113.out 3))))
    (try rw [Exit.noGoto_ret])
    refine bodyPost_ret (results_ct rfl _ _ gb113 23 #[.string (⟨#[]⟩ : ByteArray), .string (⟨#[]⟩ : ByteArray), .bool false, .bool false] (0, 0) _ rfl (by (with_reducible repeat (first | refine blk_drewN ?_ _ | refine blk_drew ?_ | refine blk_alloc ?_ _)); refine blk_put (cs := #[.string (⟨#[]⟩ : ByteArray), .string (⟨#[]⟩ : ByteArray), .bool false, .bool false]) ?_ 3 _ rfl; (with_reducible repeat (first | refine blk_drewN ?_ _ | refine blk_drew ?_ | refine blk_alloc ?_ _)); refine blk_put (cs := #[.string (⟨#[]⟩ : ByteArray), .string (⟨#[]⟩ : ByteArray), .bool false, .bool false]) ?_ 2 _ rfl; (with_reducible repeat (first | refine blk_drewN ?_ _ | refine blk_drew ?_ | refine blk_alloc ?_ _)); refine blk_put (cs := #[.string (⟨#[]⟩ : ByteArray), .string (⟨#[]⟩ : ByteArray), .bool false, .bool false]) ?_ 1 _ rfl; (with_reducible repeat (first | refine blk_drewN ?_ _ | refine blk_drew ?_ | refine blk_alloc ?_ _)); refine blk_put (cs := #[.string (⟨#[]⟩ : ByteArray), .string (⟨#[]⟩ : ByteArray), .bool false, .bool false]) ?_ 0 _ rfl; (with_reducible repeat (first | refine blk_drewN ?_ _ | refine blk_drew ?_ | refine blk_alloc ?_ _)); exact BK113.out) Try.underlying23 rfl (by kernel_rfl)) rfl ?_
    exact ⟨by first | rfl | (simp [errW_none, errW_some] <;> rfl) | (simp [*, errW_none, errW_some] <;> rfl), by repeat (first | (with_reducible first | exact HB.out | apply below_alloc | apply pw_below_drewN | apply below_drew1 | refine below_set ?_ GE112.out | refine below_set ?_ GE113.out) | exact HB.out)⟩
    all_goals (exfalso; (try simp only [pwB, pwD, pwN] at c3b0); (try simp only [pwB, pwD, pwN] at c3b1); (try unfold wrap64 at *); omega)
  · rw [if_neg c3] at H
    have c3b0 : (a1_1.toList == ([] : List UInt8)) = false := beq_eq_false_iff_ne.mpr c3
    have c3b1 : (a1_1.toList != ([] : List UInt8)) = true := bne_iff_ne.mpr c3
    have H' := Aside0.mk H
    clear H
    go_enter Try.func8, Try.ntmps8
    try go_wp2_with (first | ((with_reducible refine gate_dst (N := 3) rfl ?_); refine box_event ?hg (N := 3) ?hd (cs := #[.string a1_0, .string a1_1, .int .i64 a1_2, .bool a1_3, .bool a1_4, .bool a1_5, .slice A1_6 l1_6.length c1_6, .slice A1_7 l1_7.length c1_7, .slice A1_8 l1_8.length c1_8, .int .i64 a1_9]) (t := 28) ?hr ?_; (case hd => rfl); (case hg => rfl); (case hr => first | (go_simp; done) | (go_simp; rfl) | (go_simp; congr 4; (try congr 1); (try simp only [IntKind.wrap_u8, IntKind.wrap_u32]); (try unfold wrap64); omega)); intro gb112 hg w9 hbox hb; have n0_ := Aside0.mk (below_step zqka64_ hb); have n1_ := Aside0.mk (hbox); have n2_ := Aside0.mk ((by rw [hg]; exact (below_size zqka64_) : w.heap.size ≤ gb112)); have n3_ := Aside0.mk ((by rw [hg]; exact (below_size zqka64_) : w.heap.size ≤ gb112)); clear HB; have HB := n0_; have BK112 := n1_; have GW112 := n2_; have GE112 := n3_; clear n0_ n1_ n2_ n3_; clear hb hbox hg) | ((with_reducible refine gate_dst (N := 4) rfl ?_); refine box_event ?hg (N := 4) ?hd (cs := #[.string (⟨#[]⟩ : ByteArray), .string (⟨#[]⟩ : ByteArray), .bool false, .bool false]) (t := 23) ?hr ?_; (case hd => rfl); (case hg => rfl); (case hr => first | (go_simp; done) | (go_simp; rfl) | (go_simp; congr 4; (try congr 1); (try simp only [IntKind.wrap_u8, IntKind.wrap_u32]); (try unfold wrap64); omega)); intro gb113 hg w10 hbox hb; have n0_ := Aside0.mk (blk_below (g := gb112) (o := .cells #[.string a1_0, .string a1_1, .int .i64 a1_2, .bool a1_3, .bool a1_4, .bool a1_5, .slice A1_6 l1_6.length c1_6, .slice A1_7 l1_7.length c1_7, .slice A1_8 l1_8.length c1_8, .int .i64 a1_9] 28 (0, 0)) zqka60_ hb); have n1_ := Aside0.mk (below_step zqka63_ hb); have n2_ := Aside0.mk (hbox); have n3_ := Aside0.mk ((by rw [hg]; exact (below_size zqka63_) : w.heap.size ≤ gb113)); have n4_ := Aside0.mk ((by rw [hg]; exact (below_size zqka63_) : w.heap.size ≤ gb113)); have n5_ := Aside0.mk ((by rw [hg]; exact Nat.ne_of_lt (blk_lt (g := gb112) (o := .cells #[.string a1_0, .string a1_1, .int .i64 a1_2, .bool a1_3, .bool a1_4, .bool a1_5, .slice A1_6 l1_6.length c1_6, .slice A1_7 l1_7.length c1_7, .slice A1_8 l1_8.length c1_8, .int .i64 a1_9] 28 (0, 0)) zqka60_) : gb112 ≠ gb113)); have n6_ := Aside0.mk ((by rw [hg]; exact Nat.ne_of_gt (blk_lt (g := gb112) (o := .cells #[.string a1_0, .string a1_1, .int .i64 a1_2, .bool a1_3, .bool a1_4, .bool a1_5, .slice A1_6 l1_6.length c1_6, .slice A1_7 l1_7.length c1_7, .slice A1_8 l1_8.length c1_8, .int .i64 a1_9] 28 (0, 0)) zqka60_) : gb113 ≠ gb112)); clear BK112; clear HB; have BK112 := n0_; have HB := n1_; have BK113 := n2_; have GW113 := n3_; have GE113 := n4_; have NB112_113 := n5_; have NB113_112 := n6_; clear n0_ n1_ n2_ n3_ n4_ n5_ n6_; clear hb hbox hg; have hnb11 := NB112_113.out; have hnc11 := NB113_112.out; have hcz12_0 : w10.cell? ⟨gb112, 0, none⟩ = some (.string a1_0) := (blk_cell BK112.out 0).trans rfl; have hcz12_1 : w10.cell? ⟨gb112, 1, none⟩ = some (.string a1_1) := (blk_cell BK112.out 1).trans rfl; have hcz12_2 : w10.cell? ⟨gb112, 2, none⟩ = some (.int .i64 a1_2) := (blk_cell BK112.out 2).trans rfl; have hcz12_3 : w10.cell? ⟨gb112, 3, none⟩ = some (.bool a1_3) := (blk_cell BK112.out 3).trans rfl; have hcz12_4 : w10.cell? ⟨gb112, 4, none⟩ = some (.bool a1_4) := (blk_cell BK112.out 4).trans rfl; have hcz12_5 : w10.cell? ⟨gb112, 5, none⟩ = some (.bool a1_5) := (blk_cell BK112.out 5).trans rfl; have hcz12_6 : w10.cell? ⟨gb112, 6, none⟩ = some (.slice A1_6 l1_6.length c1_6) := (blk_cell BK112.out 6).trans rfl; have hcz12_7 : w10.cell? ⟨gb112, 7, none⟩ = some (.slice A1_7 l1_7.length c1_7) := (blk_cell BK112.out 7).trans rfl; have hcz12_8 : w10.cell? ⟨gb112, 8, none⟩ = some (.slice A1_8 l1_8.length c1_8) := (blk_cell BK112.out 8).trans rfl; have hcz12_9 : w10.cell? ⟨gb112, 9, none⟩ = some (.int .i64 a1_9) := (blk_cell BK112.out 9).trans rfl; have hfz12_0 := blk_frozen BK112.out 0; have hfz12_1 := blk_frozen BK112.out 1; have hfz12_2 := blk_frozen BK112.out 2; have hfz12_3 := blk_frozen BK112.out 3; have hfz12_4 := blk_frozen BK112.out 4; have hfz12_5 := blk_frozen BK112.out 5; have hfz12_6 := blk_frozen BK112.out 6; have hfz12_7 := blk_frozen BK112.out 7; have hfz12_8 := blk_frozen BK112.out 8; have hfz12_9 := blk_frozen BK112.out 9))
    repeat (first | (go_step3; try go_wp2_with (first | ((with_reducible refine gate_dst (N := 3) rfl ?_); refine box_event ?hg (N := 3) ?hd (cs := #[.string a1_0, .string a1_1, .int .i64 a1_2, .bool a1_3, .bool a1_4, .bool a1_5, .slice A1_6 l1_6.length c1_6, .slice A1_7 l1_7.length c1_7, .slice A1_8 l1_8.length c1_8, .int .i64 a1_9]) (t := 28) ?hr ?_; (case hd => rfl); (case hg => rfl); (case hr => first | (go_simp; done) | (go_simp; rfl) | (go_simp; congr 4; (try congr 1); (try simp only [IntKind.wrap_u8, IntKind.wrap_u32]); (try unfold wrap64); omega)); intro gb112 hg w9 hbox hb; have n0_ := Aside0.mk (below_step zqka64_ hb); have n1_ := Aside0.mk (hbox); have n2_ := Aside0.mk ((by rw [hg]; exact (below_size zqka64_) : w.heap.size ≤ gb112)); have n3_ := Aside0.mk ((by rw [hg]; exact (below_size zqka64_) : w.heap.size ≤ gb112)); clear HB; have HB := n0_; have BK112 := n1_; have GW112 := n2_; have GE112 := n3_; clear n0_ n1_ n2_ n3_; clear hb hbox hg) | ((with_reducible refine gate_dst (N := 4) rfl ?_); refine box_event ?hg (N := 4) ?hd (cs := #[.string (⟨#[]⟩ : ByteArray), .string (⟨#[]⟩ : ByteArray), .bool false, .bool false]) (t := 23) ?hr ?_; (case hd => rfl); (case hg => rfl); (case hr => first | (go_simp; done) | (go_simp; rfl) | (go_simp; congr 4; (try congr 1); (try simp only [IntKind.wrap_u8, IntKind.wrap_u32]); (try unfold wrap64); omega)); intro gb113 hg w10 hbox hb; have n0_ := Aside0.mk (blk_below (g := gb112) (o := .cells #[.string a1_0, .string a1_1, .int .i64 a1_2, .bool a1_3, .bool a1_4, .bool a1_5, .slice A1_6 l1_6.length c1_6, .slice A1_7 l1_7.length c1_7, .slice A1_8 l1_8.length c1_8, .int .i64 a1_9] 28 (0, 0)) zqka60_ hb); have n1_ := Aside0.mk (below_step zqka63_ hb); have n2_ := Aside0.mk (hbox); have n3_ := Aside0.mk ((by rw [hg]; exact (below_size zqka63_) : w.heap.size ≤ gb113)); have n4_ := Aside0.mk ((by rw [hg]; exact (below_size zqka63_) : w.heap.size ≤ gb113)); have n5_ := Aside0.mk ((by rw [hg]; exact Nat.ne_of_lt (blk_lt (g := gb112) (o := .cells #[.string a1_0, .string a1_1, .int .i64 a1_2, .bool a1_3, .bool a1_4, .bool a1_5, .slice A1_6 l1_6.length c1_6, .slice A1_7 l1_7.length c1_7, .slice A1_8 l1_8.length c1_8, .int .i64 a1_9] 28 (0, 0)) zqka60_) : gb112 ≠ gb113)); have n6_ := Aside0.mk ((by rw [hg]; exact Nat.ne_of_gt (blk_lt (g := gb112) (o := .cells #[.string a1_0, .string a1_1, .int .i64 a1_2, .bool a1_3, .bool a1_4, .bool a1_5, .slice A1_6 l1_6.length c1_6, .slice A1_7 l1_7.length c1_7, .slice A1_8 l1_8.length c1_8, .int .i64 a1_9] 28 (0, 0)) zqka60_) : gb113 ≠ gb112)); clear BK112; clear HB; have BK112 := n0_; have HB := n1_; have BK113 := n2_; have GW113 := n3_; have GE113 := n4_; have NB112_113 := n5_; have NB113_112 := n6_; clear n0_ n1_ n2_ n3_ n4_ n5_ n6_; clear hb hbox hg; have hnb11 := NB112_113.out; have hnc11 := NB113_112.out; have hcz12_0 : w10.cell? ⟨gb112, 0, none⟩ = some (.string a1_0) := (blk_cell BK112.out 0).trans rfl; have hcz12_1 : w10.cell? ⟨gb112, 1, none⟩ = some (.string a1_1) := (blk_cell BK112.out 1).trans rfl; have hcz12_2 : w10.cell? ⟨gb112, 2, none⟩ = some (.int .i64 a1_2) := (blk_cell BK112.out 2).trans rfl; have hcz12_3 : w10.cell? ⟨gb112, 3, none⟩ = some (.bool a1_3) := (blk_cell BK112.out 3).trans rfl; have hcz12_4 : w10.cell? ⟨gb112, 4, none⟩ = some (.bool a1_4) := (blk_cell BK112.out 4).trans rfl; have hcz12_5 : w10.cell? ⟨gb112, 5, none⟩ = some (.bool a1_5) := (blk_cell BK112.out 5).trans rfl; have hcz12_6 : w10.cell? ⟨gb112, 6, none⟩ = some (.slice A1_6 l1_6.length c1_6) := (blk_cell BK112.out 6).trans rfl; have hcz12_7 : w10.cell? ⟨gb112, 7, none⟩ = some (.slice A1_7 l1_7.length c1_7) := (blk_cell BK112.out 7).trans rfl; have hcz12_8 : w10.cell? ⟨gb112, 8, none⟩ = some (.slice A1_8 l1_8.length c1_8) := (blk_cell BK112.out 8).trans rfl; have hcz12_9 : w10.cell? ⟨gb112, 9, none⟩ = some (.int .i64 a1_9) := (blk_cell BK112.out 9).trans rfl; have hfz12_0 := blk_frozen BK112.out 0; have hfz12_1 := blk_frozen BK112.out 1; have hfz12_2 := blk_frozen BK112.out 2; have hfz12_3 := blk_frozen BK112.out 3; have hfz12_4 := blk_frozen BK112.out 4; have hfz12_5 := blk_frozen BK112.out 5; have hfz12_6 := blk_frozen BK112.out 6; have hfz12_7 := blk_frozen BK112.out 7; have hfz12_8 := blk_frozen BK112.out 8; have hfz12_9 := blk_frozen BK112.out 9))) | (go_quiet (first | ((with_reducible refine gate_dst (N := 3) rfl ?_); refine box_event ?hg (N := 3) ?hd (cs := #[.string a1_0, .string a1_1, .int .i64 a1_2, .bool a1_3, .bool a1_4, .bool a1_5, .slice A1_6 l1_6.length c1_6, .slice A1_7 l1_7.length c1_7, .slice A1_8 l1_8.length c1_8, .int .i64 a1_9]) (t := 28) ?hr ?_; (case hd => rfl); (case hg => rfl); (case hr => first | (go_simp; done) | (go_simp; rfl) | (go_simp; congr 4; (try congr 1); (try simp only [IntKind.wrap_u8, IntKind.wrap_u32]); (try unfold wrap64); omega)); intro gb112 hg w9 hbox hb; have n0_ := Aside0.mk (below_step zqka64_ hb); have n1_ := Aside0.mk (hbox); have n2_ := Aside0.mk ((by rw [hg]; exact (below_size zqka64_) : w.heap.size ≤ gb112)); have n3_ := Aside0.mk ((by rw [hg]; exact (below_size zqka64_) : w.heap.size ≤ gb112)); clear HB; have HB := n0_; have BK112 := n1_; have GW112 := n2_; have GE112 := n3_; clear n0_ n1_ n2_ n3_; clear hb hbox hg) | ((with_reducible refine gate_dst (N := 4) rfl ?_); refine box_event ?hg (N := 4) ?hd (cs := #[.string (⟨#[]⟩ : ByteArray), .string (⟨#[]⟩ : ByteArray), .bool false, .bool false]) (t := 23) ?hr ?_; (case hd => rfl); (case hg => rfl); (case hr => first | (go_simp; done) | (go_simp; rfl) | (go_simp; congr 4; (try congr 1); (try simp only [IntKind.wrap_u8, IntKind.wrap_u32]); (try unfold wrap64); omega)); intro gb113 hg w10 hbox hb; have n0_ := Aside0.mk (blk_below (g := gb112) (o := .cells #[.string a1_0, .string a1_1, .int .i64 a1_2, .bool a1_3, .bool a1_4, .bool a1_5, .slice A1_6 l1_6.length c1_6, .slice A1_7 l1_7.length c1_7, .slice A1_8 l1_8.length c1_8, .int .i64 a1_9] 28 (0, 0)) zqka60_ hb); have n1_ := Aside0.mk (below_step zqka63_ hb); have n2_ := Aside0.mk (hbox); have n3_ := Aside0.mk ((by rw [hg]; exact (below_size zqka63_) : w.heap.size ≤ gb113)); have n4_ := Aside0.mk ((by rw [hg]; exact (below_size zqka63_) : w.heap.size ≤ gb113)); have n5_ := Aside0.mk ((by rw [hg]; exact Nat.ne_of_lt (blk_lt (g := gb112) (o := .cells #[.string a1_0, .string a1_1, .int .i64 a1_2, .bool a1_3, .bool a1_4, .bool a1_5, .slice A1_6 l1_6.length c1_6, .slice A1_7 l1_7.length c1_7, .slice A1_8 l1_8.length c1_8, .int .i64 a1_9] 28 (0, 0)) zqka60_) : gb112 ≠ gb113)); have n6_ := Aside0.mk ((by rw [hg]; exact Nat.ne_of_gt (blk_lt (g := gb112) (o := .cells #[.string a1_0, .string a1_1, .int .i64 a1_2, .bool a1_3, .bool a1_4, .bool a1_5, .slice A1_6 l1_6.length c1_6, .slice A1_7 l1_7.length c1_7, .slice A1_8 l1_8.length c1_8, .int .i64 a1_9] 28 (0, 0)) zqka60_) : gb113 ≠ gb112)); clear BK112; clear HB; have BK112 := n0_; have HB := n1_; have BK113 := n2_; have GW113 := n3_; have GE113 := n4_; have NB112_113 := n5_; have NB113_112 := n6_; clear n0_ n1_ n2_ n3_ n4_ n5_ n6_; clear hb hbox hg; have hnb11 := NB112_113.out; have hnc11 := NB113_112.out; have hcz12_0 : w10.cell? ⟨gb112, 0, none⟩ = some (.string a1_0) := (blk_cell BK112.out 0).trans rfl; have hcz12_1 : w10.cell? ⟨gb112, 1, none⟩ = some (.string a1_1) := (blk_cell BK112.out 1).trans rfl; have hcz12_2 : w10.cell? ⟨gb112, 2, none⟩ = some (.int .i64 a1_2) := (blk_cell BK112.out 2).trans rfl; have hcz12_3 : w10.cell? ⟨gb112, 3, none⟩ = some (.bool a1_3) := (blk_cell BK112.out 3).trans rfl; have hcz12_4 : w10.cell? ⟨gb112, 4, none⟩ = some (.bool a1_4) := (blk_cell BK112.out 4).trans rfl; have hcz12_5 : w10.cell? ⟨gb112, 5, none⟩ = some (.bool a1_5) := (blk_cell BK112.out 5).trans rfl; have hcz12_6 : w10.cell? ⟨gb112, 6, none⟩ = some (.slice A1_6 l1_6.length c1_6) := (blk_cell BK112.out 6).trans rfl; have hcz12_7 : w10.cell? ⟨gb112, 7, none⟩ = some (.slice A1_7 l1_7.length c1_7) := (blk_cell BK112.out 7).trans rfl; have hcz12_8 : w10.cell? ⟨gb112, 8, none⟩ = some (.slice A1_8 l1_8.length c1_8) := (blk_cell BK112.out 8).trans rfl; have hcz12_9 : w10.cell? ⟨gb112, 9, none⟩ = some (.int .i64 a1_9) := (blk_cell BK112.out 9).trans rfl; have hfz12_0 := blk_frozen BK112.out 0; have hfz12_1 := blk_frozen BK112.out 1; have hfz12_2 := blk_frozen BK112.out 2; have hfz12_3 := blk_frozen BK112.out 3; have hfz12_4 := blk_frozen BK112.out 4; have hfz12_5 := blk_frozen BK112.out 5; have hfz12_6 := blk_frozen BK112.out 6; have hfz12_7 := blk_frozen BK112.out 7; have hfz12_8 := blk_frozen BK112.out 8; have hfz12_9 := blk_frozen BK112.out 9)); try go_wp2_with (first | ((with_reducible refine gate_dst (N := 3) rfl ?_); refine box_event ?hg (N := 3) ?hd (cs := #[.string a1_0, .string a1_1, .int .i64 a1_2, .bool a1_3, .bool a1_4, .bool a1_5, .slice A1_6 l1_6.length c1_6, .slice A1_7 l1_7.length c1_7, .slice A1_8 l1_8.length c1_8, .int .i64 a1_9]) (t := 28) ?hr ?_; (case hd => rfl); (case hg => rfl); (case hr => first | (go_simp; done) | (go_simp; rfl) | (go_simp; congr 4; (try congr 1); (try simp only [IntKind.wrap_u8, IntKind.wrap_u32]); (try unfold wrap64); omega)); intro gb112 hg w9 hbox hb; have n0_ := Aside0.mk (below_step zqka64_ hb); have n1_ := Aside0.mk (hbox); have n2_ := Aside0.mk ((by rw [hg]; exact (below_size zqka64_) : w.heap.size ≤ gb112)); have n3_ := Aside0.mk ((by rw [hg]; exact (below_size zqka64_) : w.heap.size ≤ gb112)); clear HB; have HB := n0_; have BK112 := n1_; have GW112 := n2_; have GE112 := n3_; clear n0_ n1_ n2_ n3_; clear hb hbox hg) | ((with_reducible refine gate_dst (N := 4) rfl ?_); refine box_event ?hg (N := 4) ?hd (cs := #[.string (⟨#[]⟩ : ByteArray), .string (⟨#[]⟩ : ByteArray), .bool false, .bool false]) (t := 23) ?hr ?_; (case hd => rfl); (case hg => rfl); (case hr => first | (go_simp; done) | (go_simp; rfl) | (go_simp; congr 4; (try congr 1); (try simp only [IntKind.wrap_u8, IntKind.wrap_u32]); (try unfold wrap64); omega)); intro gb113 hg w10 hbox hb; have n0_ := Aside0.mk (blk_below (g := gb112) (o := .cells #[.string a1_0, .string a1_1, .int .i64 a1_2, .bool a1_3, .bool a1_4, .bool a1_5, .slice A1_6 l1_6.length c1_6, .slice A1_7 l1_7.length c1_7, .slice A1_8 l1_8.length c1_8, .int .i64 a1_9] 28 (0, 0)) zqka60_ hb); have n1_ := Aside0.mk (below_step zqka63_ hb); have n2_ := Aside0.mk (hbox); have n3_ := Aside0.mk ((by rw [hg]; exact (below_size zqka63_) : w.heap.size ≤ gb113)); have n4_ := Aside0.mk ((by rw [hg]; exact (below_size zqka63_) : w.heap.size ≤ gb113)); have n5_ := Aside0.mk ((by rw [hg]; exact Nat.ne_of_lt (blk_lt (g := gb112) (o := .cells #[.string a1_0, .string a1_1, .int .i64 a1_2, .bool a1_3, .bool a1_4, .bool a1_5, .slice A1_6 l1_6.length c1_6, .slice A1_7 l1_7.length c1_7, .slice A1_8 l1_8.length c1_8, .int .i64 a1_9] 28 (0, 0)) zqka60_) : gb112 ≠ gb113)); have n6_ := Aside0.mk ((by rw [hg]; exact Nat.ne_of_gt (blk_lt (g := gb112) (o := .cells #[.string a1_0, .string a1_1, .int .i64 a1_2, .bool a1_3, .bool a1_4, .bool a1_5, .slice A1_6 l1_6.length c1_6, .slice A1_7 l1_7.length c1_7, .slice A1_8 l1_8.length c1_8, .int .i64 a1_9] 28 (0, 0)) zqka60_) : gb113 ≠ gb112)); clear BK112; clear HB; have BK112 := n0_; have HB := n1_; have BK113 := n2_; have GW113 := n3_; have GE113 := n4_; have NB112_113 := n5_; have NB113_112 := n6_; clear n0_ n1_ n2_ n3_ n4_ n5_ n6_; clear hb hbox hg; have hnb11 := NB112_113.out; have hnc11 := NB113_112.out; have hcz12_0 : w10.cell? ⟨gb112, 0, none⟩ = some (.string a1_0) := (blk_cell BK112.out 0).trans rfl; have hcz12_1 : w10.cell? ⟨gb112, 1, none⟩ = some (.string a1_1) := (blk_cell BK112.out 1).trans rfl; have hcz12_2 : w10.cell? ⟨gb112, 2, none⟩ = some (.int .i64 a1_2) := (blk_cell BK112.out 2).trans rfl; have hcz12_3 : w10.cell? ⟨gb112, 3, none⟩ = some (.bool a1_3) := (blk_cell BK112.out 3).trans rfl; have hcz12_4 : w10.cell? ⟨gb112, 4, none⟩ = some (.bool a1_4) := (blk_cell BK112.out 4).trans rfl; have hcz12_5 : w10.cell? ⟨gb112, 5, none⟩ = some (.bool a1_5) := (blk_cell BK112.out 5).trans rfl; have hcz12_6 : w10.cell? ⟨gb112, 6, none⟩ = some (.slice A1_6 l1_6.length c1_6) := (blk_cell BK112.out 6).trans rfl; have hcz12_7 : w10.cell? ⟨gb112, 7, none⟩ = some (.slice A1_7 l1_7.length c1_7) := (blk_cell BK112.out 7).trans rfl; have hcz12_8 : w10.cell? ⟨gb112, 8, none⟩ = some (.slice A1_8 l1_8.length c1_8) := (blk_cell BK112.out 8).trans rfl; have hcz12_9 : w10.cell? ⟨gb112, 9, none⟩ = some (.int .i64 a1_9) := (blk_cell BK112.out 9).trans rfl; have hfz12_0 := blk_frozen BK112.out 0; have hfz12_1 := blk_frozen BK112.out 1; have hfz12_2 := blk_frozen BK112.out 2; have hfz12_3 := blk_frozen BK112.out 3; have hfz12_4 := blk_frozen BK112.out 4; have hfz12_5 := blk_frozen BK112.out 5; have hfz12_6 := blk_frozen BK112.out 6; have hfz12_7 := blk_frozen BK112.out 7; have hfz12_8 := blk_frozen BK112.out 8; have hfz12_9 := blk_frozen BK112.out 9))))
    go_loopg [14] k (fun kq v14 w' => ∃ (x14_1 : Int) (x114000_1 : ByteArray) (x114001_1 : ByteArray) (x114002_1 : Bool) (x114003_1 : Bool), v14 = .int .i64 x14_1 ∧ Aside0 (login_Check.l0 kq l0 (l0.length : Int) x14_1 a1_0 a1_1 a1_2 a1_3 a1_4 a1_5 l1_6 l1_7 l1_8 a1_9 = some (r1, r2, r3, r4, r5)) ∧ Aside0 (kq ≤ k) ∧ Aside0 (w'.heap[gb112]? = some (.cells #[.string a1_0, .string a1_1, .int .i64 a1_2, .bool a1_3, .bool a1_4, .bool a1_5, (.slice A1_6 l1_6.length c1_6), (.slice A1_7 l1_7.length c1_7), (.slice A1_8 l1_8.length c1_8), .int .i64 a1_9] 28 (0, 0))) ∧ Aside0 (w'.heap[gb113]? = some (.cells #[.string x114000_1, .string x114001_1, .bool x114002_1, .bool x114003_1] 23 (0, 0))) ∧ Aside0 (Below w.heap.size w w'))
    case atStart => exact ⟨(0), ((⟨#[]⟩ : ByteArray)), ((⟨#[]⟩ : ByteArray)), (false), (false), (by first | rfl | (simp; done) | (simp [*]; done)), H', ⟨Nat.le_refl _⟩, ⟨by (with_reducible repeat (first | refine blk_drewN ?_ _ | refine blk_drew ?_ | refine blk_alloc ?_ _)); exact BK112.out⟩, ⟨by (with_reducible repeat (first | refine blk_drewN ?_ _ | refine blk_drew ?_ | refine blk_alloc ?_ _)); exact BK113.out⟩, ⟨by repeat (first | (with_reducible first | exact HB.out | apply below_alloc | apply pw_below_drewN | apply below_drew1 | refine below_set ?_ GE112.out | refine below_set ?_ GE113.out) | exact HB.out)⟩⟩
    case round =>
      clear H'
      try clear c1
      try clear p2
      try clear c3
      try clear c3b0
      try clear c3b1
      try clear p3
      try clear c6
      try clear p6
      try clear c8
      try clear c11
      try clear hcz12_0
      try clear hcz12_1
      try clear hcz12_2
      try clear hcz12_3
      try clear hcz12_4
      try clear hcz12_5
      try clear hcz12_6
      try clear hcz12_7
      try clear hcz12_8
      try clear hcz12_9
      try clear hcz7_0
      try clear hcz7_1
      try clear hcz7_2
      try clear hcz7_3
      try clear hcz7_4
      try clear hcz7_5
      try clear hcz7_6
      try clear hcz7_7
      try clear hcz7_8
      try clear hcz7_9
      try clear hcz8_0
      try clear hcz8_1
      try clear hcz8_2
      try clear hcz8_3
      try clear hfz12_0
      try clear hfz12_1
      try clear hfz12_2
      try clear hfz12_3
      try clear hfz12_4
      try clear hfz12_5
      try clear hfz12_6
      try clear hfz12_7
      try clear hfz12_8
      try clear hfz12_9
      try clear hfz7_0
      try clear hfz7_1
      try clear hfz7_2
      try clear hfz7_3
      try clear hfz7_4
      try clear hfz7_5
      try clear hfz7_6
      try clear hfz7_7
      try clear hfz7_8
      try clear hfz7_9
      try clear hfz8_0
      try clear hfz8_1
      try clear hfz8_2
      try clear hfz8_3
      obtain ⟨x14_1, x114000_1, x114001_1, x114002_1, x114003_1, rfl, HA, HK1, BK112, BK113, HB⟩ := hrel
      cases gk with
      | zero => exact absurd HA.out (by simp [login_Check.l0])
      | succ k1 =>
        have H := HA.out
        clear HA
        simp only [login_Check.l0] at H
        by_cases c13 : x14_1 < (l0.length : Int)
        · rw [if_pos c13] at H
          have c13b0 : decide (x14_1 < (l0.length : Int)) = true := decide_eq_true c13
          clear c13
          by_cases c14 : 0 ≤ x14_1
          · rw [if_pos c14] at H
            have c14b0 : decide (0 ≤ x14_1) = true := decide_eq_true c14
            clear c14
            by_cases c15 : x14_1 < (l0.length : Int)
            · rw [if_pos c15] at H
              have c15b0 : decide (x14_1 < (l0.length : Int)) = true := decide_eq_true c15
              clear c15
              by_cases c16 : ((rd_T23 l0 x14_1).f0).toList = a1_0.toList
              · rw [if_pos c16] at H
                have c16b0 : (((rd_T23 l0 x14_1).f0).toList == a1_0.toList) = true := beq_iff_eq.mpr c16
                have c16b1 : (((rd_T23 l0 x14_1).f0).toList != a1_0.toList) = false := bne_eq_false_iff_eq.mpr c16
                clear c16
                replace H := Option.bind_eq_some_iff.mp H
                obtain ⟨t116, A170, H⟩ := H
                replace H : (if t116.toList = a1_1.toList then (some ((rd_T23 l0 x14_1).f0, (rd_T23 l0 x14_1).f1, (rd_T23 l0 x14_1).f2, (rd_T23 l0 x14_1).f3, true)) else (login_Check.l0 k1 l0 (l0.length : Int) (wrap64 (x14_1 + 1)) a1_0 a1_1 a1_2 a1_3 a1_4 a1_5 l1_6 l1_7 l1_8 a1_9)) = some (r1, r2, r3, r4, r5) := H
                have A17 := Aside0.mk A170
                clear A170
                by_cases c18 : t116.toList = a1_1.toList
                · rw [if_pos c18] at H
                  have c18b0 : (t116.toList == a1_1.toList) = true := beq_iff_eq.mpr c18
                  have c18b1 : (t116.toList != a1_1.toList) = false := bne_eq_false_iff_eq.mpr c18
                  clear c18
                  simp only [Option.some.injEq, Prod.mk.injEq] at H
                  obtain ⟨rfl, rfl, rfl, rfl, rfl⟩ := H
                  have p114 : 0 ≤ (x14_1 : Int) := of_decide_eq_true zqka65_
                  have q114 : x14_1 < (l0.length : Int) := of_decide_eq_true zqka65_
                  obtain ⟨ad114, e114, hx114_0, hx114_1, hx114_2, hx114_3⟩ := at_T23 HR0.out x14_1 p114 q114
                  cases e114
                  replace hx114_0 := (HB.out.cell (World.block_lt_of_cell? w _ hx114_0)).trans hx114_0
                  replace hx114_1 := (HB.out.cell (World.block_lt_of_cell? w _ hx114_1)).trans hx114_1
                  replace hx114_2 := (HB.out.cell (World.block_lt_of_cell? w _ hx114_2)).trans hx114_2
                  replace hx114_3 := (HB.out.cell (World.block_lt_of_cell? w _ hx114_3)).trans hx114_3
                  replace p114 := eq_true p114
                  replace q114 := eq_true q114
                  try go_wp2_with (first | ((with_reducible refine gate_dst (N := 7) rfl ?_); refine box_event ?hg (N := 7) ?hd (cs := #[.string (⟨#[]⟩ : ByteArray), .string (⟨#[]⟩ : ByteArray), .bool false, .bool false]) (t := 23) ?hr ?_; (case hd => rfl); (case hg => rfl); (case hr => first | (go_simp; done) | (go_simp; rfl) | (go_simp; congr 4; (try congr 1); (try simp only [IntKind.wrap_u8, IntKind.wrap_u32]); (try unfold wrap64); omega)); intro gb115 hg w19 hbox hb; have n0_ := Aside0.mk (blk_below (g := gb112) (o := .cells #[.string a1_0, .string a1_1, .int .i64 a1_2, .bool a1_3, .bool a1_4, .bool a1_5, .slice A1_6 l1_6.length c1_6, .slice A1_7 l1_7.length c1_7, .slice A1_8 l1_8.length c1_8, .int .i64 a1_9] 28 (0, 0)) zqka60_ hb); have n1_ := Aside0.mk (blk_below (g := gb113) (o := .cells #[.string x114000_1, .string x114001_1, .bool x114002_1, .bool x114003_1] 23 (0, 0)) zqka62_ hb); have n2_ := Aside0.mk (below_step zqka61_ hb); have n3_ := Aside0.mk (hbox); have n4_ := Aside0.mk ((by rw [hg]; exact (below_size zqka61_) : w.heap.size ≤ gb115)); have n5_ := Aside0.mk ((by rw [hg]; exact (below_size zqka61_) : w.heap.size ≤ gb115)); have n6_ := Aside0.mk ((by rw [hg]; exact Nat.ne_of_lt (blk_lt (g := gb112) (o := .cells #[.string a1_0, .string a1_1, .int .i64 a1_2, .bool a1_3, .bool a1_4, .bool a1_5, .slice A1_6 l1_6.length c1_6, .slice A1_7 l1_7.length c1_7, .slice A1_8 l1_8.length c1_8, .int .i64 a1_9] 28 (0, 0)) zqka60_) : gb112 ≠ gb115)); have n7_ := Aside0.mk ((by rw [hg]; exact Nat.ne_of_gt (blk_lt (g := gb112) (o := .cells #[.string a1_0, .string a1_1, .int .i64 a1_2, .bool a1_3, .bool a1_4, .bool a1_5, .slice A1_6 l1_6.length c1_6, .slice A1_7 l1_7.length c1_7, .slice A1_8 l1_8.length c1_8, .int .i64 a1_9] 28 (0, 0)) zqka60_) : gb115 ≠ gb112)); have n8_ := Aside0.mk ((by rw [hg]; exact Nat.ne_of_lt (blk_lt (g := gb113) (o := .cells #[.string x114000_1, .string x114001_1, .bool x114002_1, .bool x114003_1] 23 (0, 0)) zqka62_) : gb113 ≠ gb115)); have n9_ := Aside0.mk ((by rw [hg]; exact Nat.ne_of_gt (blk_lt (g := gb113) (o := .cells #[.string x114000_1, .string x114001_1, .bool x114002_1, .bool x114003_1] 23 (0, 0)) zqka62_) : gb115 ≠ gb113)); clear BK112; clear BK113; clear HB; have BK112 := n0_; have BK113 := n1_; have HB := n2_; have BK115 := n3_; have GW115 := n4_; have GE115 := n5_; have NB112_115 := n6_; have NB115_112 := n7_; have NB113_115 := n8_; have NB115_113 := n9_; clear n0_ n1_ n2_ n3_ n4_ n5_ n6_ n7_ n8_ n9_; clear hb hbox hg; have hnb20 := NB115_112.out; have hnc20 := NB112_115.out; have hnb21 := NB115_113.out; have hnc21 := NB113_115.out; have hcz22_0 : w19.cell? ⟨gb115, 0, none⟩ = some (.string (⟨#[]⟩ : ByteArray)) := (blk_cell BK115.out 0).trans rfl; have hcz22_1 : w19.cell? ⟨gb115, 1, none⟩ = some (.string (⟨#[]⟩ : ByteArray)) := (blk_cell BK115.out 1).trans rfl; have hcz22_2 : w19.cell? ⟨gb115, 2, none⟩ = some (.bool false) := (blk_cell BK115.out 2).trans rfl; have hcz22_3 : w19.cell? ⟨gb115, 3, none⟩ = some (.bool false) := (blk_cell BK115.out 3).trans rfl; have hfz22_0 := blk_frozen BK115.out 0; have hfz22_1 := blk_frozen BK115.out 1; have hfz22_2 := blk_frozen BK115.out 2; have hfz22_3 := blk_frozen BK115.out 3))
                  repeat (first | (go_step3; try go_wp2_with (first | ((with_reducible refine gate_dst (N := 7) rfl ?_); refine box_event ?hg (N := 7) ?hd (cs := #[.string (⟨#[]⟩ : ByteArray), .string (⟨#[]⟩ : ByteArray), .bool false, .bool false]) (t := 23) ?hr ?_; (case hd => rfl); (case hg => rfl); (case hr => first | (go_simp; done) | (go_simp; rfl) | (go_simp; congr 4; (try congr 1); (try simp only [IntKind.wrap_u8, IntKind.wrap_u32]); (try unfold wrap64); omega)); intro gb115 hg w19 hbox hb; have n0_ := Aside0.mk (blk_below (g := gb112) (o := .cells #[.string a1_0, .string a1_1, .int .i64 a1_2, .bool a1_3, .bool a1_4, .bool a1_5, .slice A1_6 l1_6.length c1_6, .slice A1_7 l1_7.length c1_7, .slice A1_8 l1_8.length c1_8, .int .i64 a1_9] 28 (0, 0)) zqka60_ hb); have n1_ := Aside0.mk (blk_below (g := gb113) (o := .cells #[.string x114000_1, .string x114001_1, .bool x114002_1, .bool x114003_1] 23 (0, 0)) zqka62_ hb); have n2_ := Aside0.mk (below_step zqka61_ hb); have n3_ := Aside0.mk (hbox); have n4_ := Aside0.mk ((by rw [hg]; exact (below_size zqka61_) : w.heap.size ≤ gb115)); have n5_ := Aside0.mk ((by rw [hg]; exact (below_size zqka61_) : w.heap.size ≤ gb115)); have n6_ := Aside0.mk ((by rw [hg]; exact Nat.ne_of_lt (blk_lt (g := gb112) (o := .cells #[.string a1_0, .string a1_1, .int .i64 a1_2, .bool a1_3, .bool a1_4, .bool a1_5, .slice A1_6 l1_6.length c1_6, .slice A1_7 l1_7.length c1_7, .slice A1_8 l1_8.length c1_8, .int .i64 a1_9] 28 (0, 0)) zqka60_) : gb112 ≠ gb115)); have n7_ := Aside0.mk ((by rw [hg]; exact Nat.ne_of_gt (blk_lt (g := gb112) (o := .cells #[.string a1_0, .string a1_1, .int .i64 a1_2, .bool a1_3, .bool a1_4, .bool a1_5, .slice A1_6 l1_6.length c1_6, .slice A1_7 l1_7.length c1_7, .slice A1_8 l1_8.length c1_8, .int .i64 a1_9] 28 (0, 0)) zqka60_) : gb115 ≠ gb112)); have n8_ := Aside0.mk ((by rw [hg]; exact Nat.ne_of_lt (blk_lt (g := gb113) (o := .cells #[.string x114000_1, .string x114001_1, .bool x114002_1, .bool x114003_1] 23 (0, 0)) zqka62_) : gb113 ≠ gb115)); have n9_ := Aside0.mk ((by rw [hg]; exact Nat.ne_of_gt (blk_lt (g := gb113) (o := .cells #[.string x114000_1, .string x114001_1, .bool x114002_1, .bool x114003_1] 23 (0, 0)) zqka62_) : gb115 ≠ gb113)); clear BK112; clear BK113; clear HB; have BK112 := n0_; have BK113 := n1_; have HB := n2_; have BK115 := n3_; have GW115 := n4_; have GE115 := n5_; have NB112_115 := n6_; have NB115_112 := n7_; have NB113_115 := n8_; have NB115_113 := n9_; clear n0_ n1_ n2_ n3_ n4_ n5_ n6_ n7_ n8_ n9_; clear hb hbox hg; have hnb20 := NB115_112.out; have hnc20 := NB112_115.out; have hnb21 := NB115_113.out; have hnc21 := NB113_115.out; have hcz22_0 : w19.cell? ⟨gb115, 0, none⟩ = some (.string (⟨#[]⟩ : ByteArray)) := (blk_cell BK115.out 0).trans rfl; have hcz22_1 : w19.cell? ⟨gb115, 1, none⟩ = some (.string (⟨#[]⟩ : ByteArray)) := (blk_cell BK115.out 1).trans rfl; have hcz22_2 : w19.cell? ⟨gb115, 2, none⟩ = some (.bool false) := (blk_cell BK115.out 2).trans rfl; have hcz22_3 : w19.cell? ⟨gb115, 3, none⟩ = some (.bool false) := (blk_cell BK115.out 3).trans rfl; have hfz22_0 := blk_frozen BK115.out 0; have hfz22_1 := blk_frozen BK115.out 1; have hfz22_2 := blk_frozen BK115.out 2; have hfz22_3 := blk_frozen BK115.out 3))) | (go_quiet (first | ((with_reducible refine gate_dst (N := 7) rfl ?_); refine box_event ?hg (N := 7) ?hd (cs := #[.string (⟨#[]⟩ : ByteArray), .string (⟨#[]⟩ : ByteArray), .bool false, .bool false]) (t := 23) ?hr ?_; (case hd => rfl); (case hg => rfl); (case hr => first | (go_simp; done) | (go_simp; rfl) | (go_simp; congr 4; (try congr 1); (try simp only [IntKind.wrap_u8, IntKind.wrap_u32]); (try unfold wrap64); omega)); intro gb115 hg w19 hbox hb; have n0_ := Aside0.mk (blk_below (g := gb112) (o := .cells #[.string a1_0, .string a1_1, .int .i64 a1_2, .bool a1_3, .bool a1_4, .bool a1_5, .slice A1_6 l1_6.length c1_6, .slice A1_7 l1_7.length c1_7, .slice A1_8 l1_8.length c1_8, .int .i64 a1_9] 28 (0, 0)) zqka60_ hb); have n1_ := Aside0.mk (blk_below (g := gb113) (o := .cells #[.string x114000_1, .string x114001_1, .bool x114002_1, .bool x114003_1] 23 (0, 0)) zqka62_ hb); have n2_ := Aside0.mk (below_step zqka61_ hb); have n3_ := Aside0.mk (hbox); have n4_ := Aside0.mk ((by rw [hg]; exact (below_size zqka61_) : w.heap.size ≤ gb115)); have n5_ := Aside0.mk ((by rw [hg]; exact (below_size zqka61_) : w.heap.size ≤ gb115)); have n6_ := Aside0.mk ((by rw [hg]; exact Nat.ne_of_lt (blk_lt (g := gb112) (o := .cells #[.string a1_0, .string a1_1, .int .i64 a1_2, .bool a1_3, .bool a1_4, .bool a1_5, .slice A1_6 l1_6.length c1_6, .slice A1_7 l1_7.length c1_7, .slice A1_8 l1_8.length c1_8, .int .i64 a1_9] 28 (0, 0)) zqka60_) : gb112 ≠ gb115)); have n7_ := Aside0.mk ((by rw [hg]; exact Nat.ne_of_gt (blk_lt (g := gb112) (o := .cells #[.string a1_0, .string a1_1, .int .i64 a1_2, .bool a1_3, .bool a1_4, .bool a1_5, .slice A1_6 l1_6.length c1_6, .slice A1_7 l1_7.length c1_7, .slice A1_8 l1_8.length c1_8, .int .i64 a1_9] 28 (0, 0)) zqka60_) : gb115 ≠ gb112)); have n8_ := Aside0.mk ((by rw [hg]; exact Nat.ne_of_lt (blk_lt (g := gb113) (o := .cells #[.string x114000_1, .string x114001_1, .bool x114002_1, .bool x114003_1] 23 (0, 0)) zqka62_) : gb113 ≠ gb115)); have n9_ := Aside0.mk ((by rw [hg]; exact Nat.ne_of_gt (blk_lt (g := gb113) (o := .cells #[.string x114000_1, .string x114001_1, .bool x114002_1, .bool x114003_1] 23 (0, 0)) zqka62_) : gb115 ≠ gb113)); clear BK112; clear BK113; clear HB; have BK112 := n0_; have BK113 := n1_; have HB := n2_; have BK115 := n3_; have GW115 := n4_; have GE115 := n5_; have NB112_115 := n6_; have NB115_112 := n7_; have NB113_115 := n8_; have NB115_113 := n9_; clear n0_ n1_ n2_ n3_ n4_ n5_ n6_ n7_ n8_ n9_; clear hb hbox hg; have hnb20 := NB115_112.out; have hnc20 := NB112_115.out; have hnb21 := NB115_113.out; have hnc21 := NB113_115.out; have hcz22_0 : w19.cell? ⟨gb115, 0, none⟩ = some (.string (⟨#[]⟩ : ByteArray)) := (blk_cell BK115.out 0).trans rfl; have hcz22_1 : w19.cell? ⟨gb115, 1, none⟩ = some (.string (⟨#[]⟩ : ByteArray)) := (blk_cell BK115.out 1).trans rfl; have hcz22_2 : w19.cell? ⟨gb115, 2, none⟩ = some (.bool false) := (blk_cell BK115.out 2).trans rfl; have hcz22_3 : w19.cell? ⟨gb115, 3, none⟩ = some (.bool false) := (blk_cell BK115.out 3).trans rfl; have hfz22_0 := blk_frozen BK115.out 0; have hfz22_1 := blk_frozen BK115.out 1; have hfz22_2 := blk_frozen BK115.out 2; have hfz22_3 := blk_frozen BK115.out 3)); try go_wp2_with (first | ((with_reducible refine gate_dst (N := 7) rfl ?_); refine box_event ?hg (N := 7) ?hd (cs := #[.string (⟨#[]⟩ : ByteArray), .string (⟨#[]⟩ : ByteArray), .bool false, .bool false]) (t := 23) ?hr ?_; (case hd => rfl); (case hg => rfl); (case hr => first | (go_simp; done) | (go_simp; rfl) | (go_simp; congr 4; (try congr 1); (try simp only [IntKind.wrap_u8, IntKind.wrap_u32]); (try unfold wrap64); omega)); intro gb115 hg w19 hbox hb; have n0_ := Aside0.mk (blk_below (g := gb112) (o := .cells #[.string a1_0, .string a1_1, .int .i64 a1_2, .bool a1_3, .bool a1_4, .bool a1_5, .slice A1_6 l1_6.length c1_6, .slice A1_7 l1_7.length c1_7, .slice A1_8 l1_8.length c1_8, .int .i64 a1_9] 28 (0, 0)) zqka60_ hb); have n1_ := Aside0.mk (blk_below (g := gb113) (o := .cells #[.string x114000_1, .string x114001_1, .bool x114002_1, .bool x114003_1] 23 (0, 0)) zqka62_ hb); have n2_ := Aside0.mk (below_step zqka61_ hb); have n3_ := Aside0.mk (hbox); have n4_ := Aside0.mk ((by rw [hg]; exact (below_size zqka61_) : w.heap.size ≤ gb115)); have n5_ := Aside0.mk ((by rw [hg]; exact (below_size zqka61_) : w.heap.size ≤ gb115)); have n6_ := Aside0.mk ((by rw [hg]; exact Nat.ne_of_lt (blk_lt (g := gb112) (o := .cells #[.string a1_0, .string a1_1, .int .i64 a1_2, .bool a1_3, .bool a1_4, .bool a1_5, .slice A1_6 l1_6.length c1_6, .slice A1_7 l1_7.length c1_7, .slice A1_8 l1_8.length c1_8, .int .i64 a1_9] 28 (0, 0)) zqka60_) : gb112 ≠ gb115)); have n7_ := Aside0.mk ((by rw [hg]; exact Nat.ne_of_gt (blk_lt (g := gb112) (o := .cells #[.string a1_0, .string a1_1, .int .i64 a1_2, .bool a1_3, .bool a1_4, .bool a1_5, .slice A1_6 l1_6.length c1_6, .slice A1_7 l1_7.length c1_7, .slice A1_8 l1_8.length c1_8, .int .i64 a1_9] 28 (0, 0)) zqka60_) : gb115 ≠ gb112)); have n8_ := Aside0.mk ((by rw [hg]; exact Nat.ne_of_lt (blk_lt (g := gb113) (o := .cells #[.string x114000_1, .string x114001_1, .bool x114002_1, .bool x114003_1] 23 (0, 0)) zqka62_) : gb113 ≠ gb115)); have n9_ := Aside0.mk ((by rw [hg]; exact Nat.ne_of_gt (blk_lt (g := gb113) (o := .cells #[.string x114000_1, .string x114001_1, .bool x114002_1, .bool x114003_1] 23 (0, 0)) zqka62_) : gb115 ≠ gb113)); clear BK112; clear BK113; clear HB; have BK112 := n0_; have BK113 := n1_; have HB := n2_; have BK115 := n3_; have GW115 := n4_; have GE115 := n5_; have NB112_115 := n6_; have NB115_112 := n7_; have NB113_115 := n8_; have NB115_113 := n9_; clear n0_ n1_ n2_ n3_ n4_ n5_ n6_ n7_ n8_ n9_; clear hb hbox hg; have hnb20 := NB115_112.out; have hnc20 := NB112_115.out; have hnb21 := NB115_113.out; have hnc21 := NB113_115.out; have hcz22_0 : w19.cell? ⟨gb115, 0, none⟩ = some (.string (⟨#[]⟩ : ByteArray)) := (blk_cell BK115.out 0).trans rfl; have hcz22_1 : w19.cell? ⟨gb115, 1, none⟩ = some (.string (⟨#[]⟩ : ByteArray)) := (blk_cell BK115.out 1).trans rfl; have hcz22_2 : w19.cell? ⟨gb115, 2, none⟩ = some (.bool false) := (blk_cell BK115.out 2).trans rfl; have hcz22_3 : w19.cell? ⟨gb115, 3, none⟩ = some (.bool false) := (blk_cell BK115.out 3).trans rfl; have hfz22_0 := blk_frozen BK115.out 0; have hfz22_1 := blk_frozen BK115.out 1; have hfz22_2 := blk_frozen BK115.out 2; have hfz22_3 := blk_frozen BK115.out 3))))
                  have n0_ : Aside0 (((((w19.setCell ⟨gb115, 0, none⟩ (.string ((rd_T23 l0 x14_1).f0))).setCell ⟨gb115, 1, none⟩ (.string ((rd_T23 l0 x14_1).f1))).setCell ⟨gb115, 2, none⟩ (.bool ((rd_T23 l0 x14_1).f2))).setCell ⟨gb115, 3, none⟩ (.bool ((rd_T23 l0 x14_1).f3))).heap[gb112]? = some (.cells #[.string a1_0, .string a1_1, .int .i64 a1_2, .bool a1_3, .bool a1_4, .bool a1_5, .slice A1_6 l1_6.length c1_6, .slice A1_7 l1_7.length c1_7, .slice A1_8 l1_8.length c1_8, .int .i64 a1_9] 28 (0, 0))) := ⟨by (with_reducible repeat (first | refine blk_drewN ?_ _ | refine blk_drew ?_ | refine blk_alloc ?_ _)); refine blk_far ?_ NB112_115.out _; (with_reducible repeat (first | refine blk_drewN ?_ _ | refine blk_drew ?_ | refine blk_alloc ?_ _)); refine blk_far ?_ NB112_115.out _; (with_reducible repeat (first | refine blk_drewN ?_ _ | refine blk_drew ?_ | refine blk_alloc ?_ _)); refine blk_far ?_ NB112_115.out _; (with_reducible repeat (first | refine blk_drewN ?_ _ | refine blk_drew ?_ | refine blk_alloc ?_ _)); refine blk_far ?_ NB112_115.out _; (with_reducible repeat (first | refine blk_drewN ?_ _ | refine blk_drew ?_ | refine blk_alloc ?_ _)); exact BK112.out⟩
                  have n1_ : Aside0 (((((w19.setCell ⟨gb115, 0, none⟩ (.string ((rd_T23 l0 x14_1).f0))).setCell ⟨gb115, 1, none⟩ (.string ((rd_T23 l0 x14_1).f1))).setCell ⟨gb115, 2, none⟩ (.bool ((rd_T23 l0 x14_1).f2))).setCell ⟨gb115, 3, none⟩ (.bool ((rd_T23 l0 x14_1).f3))).heap[gb113]? = some (.cells #[.string x114000_1, .string x114001_1, .bool x114002_1, .bool x114003_1] 23 (0, 0))) := ⟨by (with_reducible repeat (first | refine blk_drewN ?_ _ | refine blk_drew ?_ | refine blk_alloc ?_ _)); refine blk_far ?_ NB113_115.out _; (with_reducible repeat (first | refine blk_drewN ?_ _ | refine blk_drew ?_ | refine blk_alloc ?_ _)); refine blk_far ?_ NB113_115.out _; (with_reducible repeat (first | refine blk_drewN ?_ _ | refine blk_drew ?_ | refine blk_alloc ?_ _)); refine blk_far ?_ NB113_115.out _; (with_reducible repeat (first | refine blk_drewN ?_ _ | refine blk_drew ?_ | refine blk_alloc ?_ _)); refine blk_far ?_ NB113_115.out _; (with_reducible repeat (first | refine blk_drewN ?_ _ | refine blk_drew ?_ | refine blk_alloc ?_ _)); exact BK113.out⟩
                  have n2_ : Aside0 (((((w19.setCell ⟨gb115, 0, none⟩ (.string ((rd_T23 l0 x14_1).f0))).setCell ⟨gb115, 1, none⟩ (.string ((rd_T23 l0 x14_1).f1))).setCell ⟨gb115, 2, none⟩ (.bool ((rd_T23 l0 x14_1).f2))).setCell ⟨gb115, 3, none⟩ (.bool ((rd_T23 l0 x14_1).f3))).heap[gb115]? = some (.cells #[.string ((rd_T23 l0 x14_1).f0), .string ((rd_T23 l0 x14_1).f1), .bool ((rd_T23 l0 x14_1).f2), .bool ((rd_T23 l0 x14_1).f3)] 23 (0, 0))) := ⟨by (with_reducible repeat (first | refine blk_drewN ?_ _ | refine blk_drew ?_ | refine blk_alloc ?_ _)); refine blk_put (cs := #[.string ((rd_T23 l0 x14_1).f0), .string ((rd_T23 l0 x14_1).f1), .bool ((rd_T23 l0 x14_1).f2), .bool false]) ?_ 3 _ rfl; (with_reducible repeat (first | refine blk_drewN ?_ _ | refine blk_drew ?_ | refine blk_alloc ?_ _)); refine blk_put (cs := #[.string ((rd_T23 l0 x14_1).f0), .string ((rd_T23 l0 x14_1).f1), .bool false, .bool false]) ?_ 2 _ rfl; (with_reducible repeat (first | refine blk_drewN ?_ _ | refine blk_drew ?_ | refine blk_alloc ?_ _)); refine blk_put (cs := #[.string ((rd_T23 l0 x14_1).f0), .string (⟨#[]⟩ : ByteArray), .bool false, .bool false]) ?_ 1 _ rfl; (with_reducible repeat (first | refine blk_drewN ?_ _ | refine blk_drew ?_ | refine blk_alloc ?_ _)); refine blk_put (cs := #[.string (⟨#[]⟩ : ByteArray), .string (⟨#[]⟩ : ByteArray), .bool false, .bool false]) ?_ 0 _ rfl; (with_reducible repeat (first | refine blk_drewN ?_ _ | refine blk_drew ?_ | refine blk_alloc ?_ _)); exact BK115.out⟩
                  have n3_ : Aside0 (Below w.heap.size w ((((w19.setCell ⟨gb115, 0, none⟩ (.string ((rd_T23 l0 x14_1).f0))).setCell ⟨gb115, 1, none⟩ (.string ((rd_T23 l0 x14_1).f1))).setCell ⟨gb115, 2, none⟩ (.bool ((rd_T23 l0 x14_1).f2))).setCell ⟨gb115, 3, none⟩ (.bool ((rd_T23 l0 x14_1).f3)))) := ⟨by repeat (first | (with_reducible first | exact HB.out | apply below_alloc | apply pw_below_drewN | apply below_drew1 | refine below_set ?_ GE112.out | refine below_set ?_ GE113.out | refine below_set ?_ GE115.out) | exact HB.out)⟩
                  (try clear BK112)
                  (try clear BK113)
                  (try clear BK115)
                  (try clear HB)
                  generalize ((((w19.setCell ⟨gb115, 0, none⟩ (.string ((rd_T23 l0 x14_1).f0))).setCell ⟨gb115, 1, none⟩ (.string ((rd_T23 l0 x14_1).f1))).setCell ⟨gb115, 2, none⟩ (.bool ((rd_T23 l0 x14_1).f2))).setCell ⟨gb115, 3, none⟩ (.bool ((rd_T23 l0 x14_1).f3))) = w23 at n0_ n1_ n2_ n3_ ⊢
                  have BK112 := n0_
                  have BK113 := n1_
                  have BK115 := n2_
                  have HB := n3_
                  clear n0_ n1_ n2_ n3_
                  (try (generalize hdn_ : World.drewN w23 _ = wdn_ at ⊢; obtain ⟨n_, hdn_⟩ : ∃ n, World.drewN w23 n = wdn_ := ⟨_, hdn_⟩; have m0_ := blk_drewN BK112.out n_; rw [hdn_] at m0_; have m0_ := Aside0.mk m0_; have m1_ := blk_drewN BK113.out n_; rw [hdn_] at m1_; have m1_ := Aside0.mk m1_; have m2_ := blk_drewN BK115.out n_; rw [hdn_] at m2_; have m2_ := Aside0.mk m2_; have m3_ := pw_below_drewN HB.out n_; rw [hdn_] at m3_; have m3_ := Aside0.mk m3_; clear hdn_ BK112 BK113 BK115 HB; have BK112 := m0_; have BK113 := m1_; have BK115 := m2_; have HB := m3_; clear m0_ m1_ m2_ m3_))
                  have n0_ := Aside0.mk (blk_drew BK112.out)
                  have n1_ := Aside0.mk (blk_drew BK113.out)
                  have n2_ := Aside0.mk (blk_drew BK115.out)
                  have n3_ := Aside0.mk (below_drew1 HB.out)
                  clear BK112
                  clear BK113
                  clear BK115
                  clear HB
                  have BK112 := n0_
                  have BK113 := n1_
                  have BK115 := n2_
                  have HB := n3_
                  clear n0_ n1_ n2_ n3_
                  refine start_ (n := 16) (S := fun w' => w'.cell? ⟨gb115, 0, none⟩ = some (.string ((rd_T23 l0 x14_1).f0)) ∧ w'.cell? ⟨gb115, 1, none⟩ = some (.string ((rd_T23 l0 x14_1).f1)) ∧ w'.cell? ⟨gb115, 2, none⟩ = some (.bool ((rd_T23 l0 x14_1).f2)) ∧ w'.cell? ⟨gb115, 3, none⟩ = some (.bool ((rd_T23 l0 x14_1).f3)) ∧ w'.cell? ⟨gb112, 0, none⟩ = some (.string a1_0) ∧ w'.cell? ⟨gb112, 1, none⟩ = some (.string a1_1) ∧ w'.cell? ⟨gb112, 2, none⟩ = some (.int .i64 a1_2) ∧ w'.cell? ⟨gb112, 3, none⟩ = some (.bool a1_3) ∧ w'.cell? ⟨gb112, 4, none⟩ = some (.bool a1_4) ∧ w'.cell? ⟨gb112, 5, none⟩ = some (.bool a1_5) ∧ w'.cell? ⟨gb112, 6, none⟩ = some (.slice A1_6 l1_6.length c1_6) ∧ w'.cell? ⟨gb112, 7, none⟩ = some (.slice A1_7 l1_7.length c1_7) ∧ w'.cell? ⟨gb112, 8, none⟩ = some (.slice A1_8 l1_8.length c1_8) ∧ w'.cell? ⟨gb112, 9, none⟩ = some (.int .i64 a1_9)) (ds := []) zbka60_ (by kernel_rfl) rfl rfl ⟨(blk_cell BK115.out 0).trans rfl, (blk_cell BK115.out 1).trans rfl, (blk_cell BK115.out 2).trans rfl, (blk_cell BK115.out 3).trans rfl, (blk_cell BK112.out 0).trans rfl, (blk_cell BK112.out 1).trans rfl, (blk_cell BK112.out 2).trans rfl, (blk_cell BK112.out 3).trans rfl, (blk_cell BK112.out 4).trans rfl, (blk_cell BK112.out 5).trans rfl, (blk_cell BK112.out 6).trans rfl, (blk_cell BK112.out 7).trans rfl, (blk_cell BK112.out 8).trans rfl, (blk_cell BK112.out 9).trans rfl⟩ (fun hHeld => ?_); refine with_tabW login_Check.tab6 login_Check.bits6 (fun HT_ HW_ => ?_)
                  (first | generalize wdn_.drew = w24 at BK112 BK113 BK115 HB hHeld ⊢ | generalize w23.drew = w24 at BK112 BK113 BK115 HB hHeld ⊢)
                  refine pure_ (i := 0) (N := some 18) (v := ?_) (a' := ?_) zbka61_ rfl rfl (any_of HT_.out (by kernel_rfl)) (fun _ _ _ h => h) (Or.inl ⟨by rfl, ?_⟩) ?_ ?_
                  rotate_left
                  · intro w'
                    go_simp
                    with_reducible rfl
                  rotate_left
                  · simp only [Act.put, List.setIfInBounds_toArray, List.set_cons_zero, List.set_cons_succ, i64_w, i32_w]
                    rfl
                  refine pure_ (i := 2) (N := some 20) (v := ?_) (a' := ?_) zbka62_ rfl rfl (any_of HT_.out (by kernel_rfl)) (fun _ _ _ h => h) (Or.inl ⟨by rfl, ?_⟩) ?_ ?_
                  rotate_left
                  · intro w'
                    go_simp
                    with_reducible rfl
                  rotate_left
                  · simp only [Act.put, List.setIfInBounds_toArray, List.set_cons_zero, List.set_cons_succ, i64_w, i32_w]
                    rfl
                  refine take_ (i := 1) (N := some 19) (v := ?_) (a' := ?_) zbka63_ rfl rfl (take_ofW HT_.out HW_.out (by kernel_rfl)) (fun _ _ _ h => h) (Or.inl ⟨by rfl, ?_⟩) hHeld ?_ ?_
                  rotate_left
                  · rintro w' ⟨s0, s1, s2, s3, s4, s5, s6, s7, s8, s9, s10, s11, s12, s13⟩
                    go_simp
                    with_reducible rfl
                  rotate_left
                  · simp only [Act.put, List.setIfInBounds_toArray, List.set_cons_zero, List.set_cons_succ, i64_w, i32_w]
                    rfl
                  refine take_ (i := 3) (N := some 21) (v := ?_) (a' := ?_) zbka64_ rfl rfl (take_ofW HT_.out HW_.out (by kernel_rfl)) (fun _ _ _ h => h) (Or.inl ⟨by rfl, ?_⟩) hHeld ?_ ?_
                  rotate_left
                  · rintro w' ⟨s0, s1, s2, s3, s4, s5, s6, s7, s8, s9, s10, s11, s12, s13⟩
                    go_simp
                    with_reducible rfl
                  rotate_left
                  · simp only [Act.put, List.setIfInBounds_toArray, List.set_cons_zero, List.set_cons_succ, i64_w, i32_w]
                    rfl
                  refine pure_ (i := 4) (N := some 22) (v := ?_) (a' := ?_) zbka65_ rfl rfl (any_of HT_.out (by kernel_rfl)) (fun _ _ _ h => h) (Or.inl ⟨by rfl, ?_⟩) ?_ ?_
                  rotate_left
                  · intro w'
                    go_simp
                    with_reducible rfl
                  rotate_left
                  · simp only [Act.put, List.setIfInBounds_toArray, List.set_cons_zero, List.set_cons_succ, i64_w, i32_w]
                    rfl
                  refine pure_ (i := 5) (N := some 23) (v := ?_) (a' := ?_) zbka66_ rfl rfl (any_of HT_.out (by kernel_rfl)) (fun _ _ _ h => h) (Or.inl ⟨by rfl, ?_⟩) ?_ ?_
                  rotate_left
                  · intro w'
                    go_simp
                    with_reducible rfl
                  rotate_left
                  · simp only [Act.put, List.setIfInBounds_toArray, List.set_cons_zero, List.set_cons_succ, i64_w, i32_w]
                    rfl
                  refine pure_ (i := 6) (N := some 24) (v := ?_) (a' := ?_) zbka67_ rfl rfl (any_of HT_.out (by kernel_rfl)) (fun _ _ _ h => h) (Or.inl ⟨by rfl, ?_⟩) ?_ ?_
                  rotate_left
                  · intro w'
                    go_simp
                    with_reducible rfl
                  rotate_left
                  · simp only [Act.put, List.setIfInBounds_toArray, List.set_cons_zero, List.set_cons_succ, i64_w, i32_w]
                    rfl
                  refine pure_ (i := 8) (N := some 26) (v := ?_) (a' := ?_) #[true, true, true, true, true, true, true, false, true, false, false, false, false, false, false, false] rfl rfl (any_of HT_.out (by kernel_rfl)) (fun _ _ _ h => h) (Or.inl ⟨by rfl, ?_⟩) ?_ ?_
                  rotate_left
                  · intro w'
                    go_simp
                    with_reducible rfl
                  rotate_left
                  · simp only [Act.put, List.setIfInBounds_toArray, List.set_cons_zero, List.set_cons_succ, i64_w, i32_w]
                    rfl
                  refine pure_ (i := 12) (N := some 30) (v := ?_) (a' := ?_) #[true, true, true, true, true, true, true, false, true, false, false, false, true, false, false, false] rfl rfl (any_of HT_.out (by kernel_rfl)) (fun _ _ _ h => h) (Or.inl ⟨by rfl, ?_⟩) ?_ ?_
                  rotate_left
                  · intro w'
                    go_simp
                    with_reducible rfl
                  rotate_left
                  · simp only [Act.put, List.setIfInBounds_toArray, List.set_cons_zero, List.set_cons_succ, i64_w, i32_w]
                    rfl
                  refine take_ (i := 7) (N := some 25) (v := ?_) (a' := ?_) #[true, true, true, true, true, true, true, true, true, false, false, false, true, false, false, false] rfl rfl (take_ofW HT_.out HW_.out (by kernel_rfl)) (fun _ _ _ h => h) (Or.inl ⟨by rfl, ?_⟩) hHeld ?_ ?_
                  rotate_left
                  · rintro w' ⟨s0, s1, s2, s3, s4, s5, s6, s7, s8, s9, s10, s11, s12, s13⟩
                    go_simp
                    with_reducible rfl
                  rotate_left
                  · simp only [Act.put, List.setIfInBounds_toArray, List.set_cons_zero, List.set_cons_succ, i64_w, i32_w]
                    rfl
                  refine take_ (i := 9) (N := some 27) (v := ?_) (a' := ?_) #[true, true, true, true, true, true, true, true, true, true, false, false, true, false, false, false] rfl rfl (take_ofW HT_.out HW_.out (by kernel_rfl)) (fun _ _ _ h => h) (Or.inl ⟨by rfl, ?_⟩) hHeld ?_ ?_
                  rotate_left
                  · rintro w' ⟨s0, s1, s2, s3, s4, s5, s6, s7, s8, s9, s10, s11, s12, s13⟩
                    go_simp
                    with_reducible rfl
                  rotate_left
                  · simp only [Act.put, List.setIfInBounds_toArray, List.set_cons_zero, List.set_cons_succ, i64_w, i32_w]
                    rfl
                  refine take_ (i := 10) (N := some 28) (v := ?_) (a' := ?_) #[true, true, true, true, true, true, true, true, true, true, true, false, true, false, false, false] rfl rfl (take_ofW HT_.out HW_.out (by kernel_rfl)) (fun _ _ _ h => h) (Or.inl ⟨by rfl, ?_⟩) hHeld ?_ ?_
                  rotate_left
                  · rintro w' ⟨s0, s1, s2, s3, s4, s5, s6, s7, s8, s9, s10, s11, s12, s13⟩
                    go_simp
                    with_reducible rfl
                  rotate_left
                  · simp only [Act.put, List.setIfInBounds_toArray, List.set_cons_zero, List.set_cons_succ, i64_w, i32_w]
                    rfl
                  refine take_ (i := 13) (N := some 31) (v := ?_) (a' := ?_) #[true, true, true, true, true, true, true, true, true, true, true, false, true, true, false, false] rfl rfl (take_ofW HT_.out HW_.out (by kernel_rfl)) (fun _ _ _ h => h) (Or.inl ⟨by rfl, ?_⟩) hHeld ?_ ?_
                  rotate_left
                  · rintro w' ⟨s0, s1, s2, s3, s4, s5, s6, s7, s8, s9, s10, s11, s12, s13⟩
                    go_simp
                    with_reducible rfl
                  rotate_left
                  · simp only [Act.put, List.setIfInBounds_toArray, List.set_cons_zero, List.set_cons_succ, i64_w, i32_w]
                    rfl
                  refine one_ (i := 11) (N := some 29) zbka68_ rfl rfl (one_of HT_.out (by kernel_rfl)) (by decide) (fun K hK => ?_)
                  refine goes_ Try.func14 (by kernel_rfl) rfl #[.string ((rd_T23 l0 x14_1).f0), .string ((rd_T23 l0 x14_1).f1), .agg #[.string a1_0, .string a1_1, .int .i64 a1_2, .bool a1_3, .bool a1_4, .bool a1_5, .slice A1_6 l1_6.length c1_6, .slice A1_7 l1_7.length c1_7, .slice A1_8 l1_8.length c1_8, .int .i64 a1_9]] (by rfl) rfl rfl (by (try simp only [List.map_toArray, List.map_cons, List.map_nil]); first | done | rfl | (simp only [List.length_drop, List.length_take]; rfl)) ?_
                  with_reducible refine (login_Sig.calls ((rd_T23 l0 x14_1).f0) ((rd_T23 l0 x14_1).f1) a1_0 a1_1 a1_2 a1_3 a1_4 a1_5 _ _ l1_6 _ _ l1_7 _ _ l1_8 a1_9 t116 _ ?side1 ?side2 ?side3 ?side4 ?side5 ?side6 A17.out).mono ?_
                  (case side1 => repeat (first | exact (Kd.C_below HR1_6.out HB.out) | (with_reducible refine Kd.C_alloc ?_ _) | (with_reducible refine Kd.C_drewN ?_ _) | (with_reducible refine Kd.C_drew ?_)))
                  (case side2 => exact HC1_6.out)
                  (case side3 => repeat (first | exact (Kd.C_below HR1_7.out HB.out) | (with_reducible refine Kd.C_alloc ?_ _) | (with_reducible refine Kd.C_drewN ?_ _) | (with_reducible refine Kd.C_drew ?_)))
                  (case side4 => exact HC1_7.out)
                  (case side5 => repeat (first | exact (Kd.C_below HR1_8.out HB.out) | (with_reducible refine Kd.C_alloc ?_ _) | (with_reducible refine Kd.C_drewN ?_ _) | (with_reducible refine Kd.C_drew ?_)))
                  (case side6 => exact HC1_8.out)
                  rintro e w25 ⟨rfl, hb⟩
                  refine ⟨_, rfl, ?_⟩
                  have n0_ := Aside0.mk (blk_below (g := gb112) (o := .cells #[.string a1_0, .string a1_1, .int .i64 a1_2, .bool a1_3, .bool a1_4, .bool a1_5, .slice A1_6 l1_6.length c1_6, .slice A1_7 l1_7.length c1_7, .slice A1_8 l1_8.length c1_8, .int .i64 a1_9] 28 (0, 0)) zqka60_ hb)
                  have n1_ := Aside0.mk (blk_below (g := gb113) (o := .cells #[.string x114000_1, .string x114001_1, .bool x114002_1, .bool x114003_1] 23 (0, 0)) zqka62_ hb)
                  have n2_ := Aside0.mk (blk_below (g := gb115) (o := .cells #[.string ((rd_T23 l0 x14_1).f0), .string ((rd_T23 l0 x14_1).f1), .bool ((rd_T23 l0 x14_1).f2), .bool ((rd_T23 l0 x14_1).f3)] 23 (0, 0)) (by (with_reducible repeat (first | refine blk_drewN ?_ _ | refine blk_drew ?_ | refine blk_alloc ?_ _)); exact BK115.out) hb)
                  have n3_ := Aside0.mk (below_step zqka66_ hb)
                  clear BK112
                  clear BK113
                  clear BK115
                  clear HB
                  have BK112 := n0_
                  have BK113 := n1_
                  have BK115 := n2_
                  have HB := n3_
                  clear n0_ n1_ n2_ n3_
                  (try clear hb)
                  (try clear hb2)
                  (try clear hk)
                  (try clear hi)
                  refine hK.out _ _ ⟨(blk_cell BK115.out 0).trans rfl, (blk_cell BK115.out 1).trans rfl, (blk_cell BK115.out 2).trans rfl, (blk_cell BK115.out 3).trans rfl, (blk_cell BK112.out 0).trans rfl, (blk_cell BK112.out 1).trans rfl, (blk_cell BK112.out 2).trans rfl, (blk_cell BK112.out 3).trans rfl, (blk_cell BK112.out 4).trans rfl, (blk_cell BK112.out 5).trans rfl, (blk_cell BK112.out 6).trans rfl, (blk_cell BK112.out 7).trans rfl, (blk_cell BK112.out 8).trans rfl, (blk_cell BK112.out 9).trans rfl⟩ (fun hHeld => ?_)
                  clear hK K
                  refine norm_ (a' := ?_) ?_ ?_
                  rotate_left
                  · show Act.put _ (some 29) _ = _
                    simp only [Act.put, List.setIfInBounds_toArray, List.set_cons_zero, List.set_cons_succ, i64_w, i32_w]
                    rfl
                  refine pure_ (i := 14) (N := some 32) (v := ?_) (a' := ?_) zbka69_ rfl rfl (any_of HT_.out (by kernel_rfl)) (fun _ _ _ h => h) (Or.inl ⟨by rfl, ?_⟩) ?_ ?_
                  rotate_left
                  · intro w'
                    go_simp
                    with_reducible rfl
                  rotate_left
                  · simp only [Act.put, List.setIfInBounds_toArray, List.set_cons_zero, List.set_cons_succ, i64_w, i32_w]
                    rfl
                  refine pure_ (i := 15) (N := some 33) (v := ?_) (a' := ?_) zbka610_ rfl rfl (any_of HT_.out (by kernel_rfl)) (fun _ _ _ h => h) (Or.inl ⟨by rfl, ?_⟩) ?_ ?_
                  rotate_left
                  · intro w'
                    go_simp
                    with_reducible rfl
                  rotate_left
                  · simp only [Act.put, List.setIfInBounds_toArray, List.set_cons_zero, List.set_cons_succ, i64_w, i32_w]
                    rfl
                  refine done_ (done_of HT_.out (by kernel_rfl)) ?_
                  have hcz26_0 : w25.cell? ⟨gb115, 0, none⟩ = some (.string ((rd_T23 l0 x14_1).f0)) := (blk_cell BK115.out 0).trans rfl
                  have hcz26_1 : w25.cell? ⟨gb115, 1, none⟩ = some (.string ((rd_T23 l0 x14_1).f1)) := (blk_cell BK115.out 1).trans rfl
                  have hcz26_2 : w25.cell? ⟨gb115, 2, none⟩ = some (.bool ((rd_T23 l0 x14_1).f2)) := (blk_cell BK115.out 2).trans rfl
                  have hcz26_3 : w25.cell? ⟨gb115, 3, none⟩ = some (.bool ((rd_T23 l0 x14_1).f3)) := (blk_cell BK115.out 3).trans rfl
                  have hfz26_0 := blk_frozen BK115.out 0
                  have hfz26_1 := blk_frozen BK115.out 1
                  have hfz26_2 := blk_frozen BK115.out 2
                  have hfz26_3 := blk_frozen BK115.out 3
                  have hnb27 := NB113_112.out
                  have hnc27 := NB112_113.out
                  have hcz28_0 : w25.cell? ⟨gb113, 0, none⟩ = some (.string x114000_1) := (blk_cell BK113.out 0).trans rfl
                  have hcz28_1 : w25.cell? ⟨gb113, 1, none⟩ = some (.string x114001_1) := (blk_cell BK113.out 1).trans rfl
                  have hcz28_2 : w25.cell? ⟨gb113, 2, none⟩ = some (.bool x114002_1) := (blk_cell BK113.out 2).trans rfl
                  have hcz28_3 : w25.cell? ⟨gb113, 3, none⟩ = some (.bool x114003_1) := (blk_cell BK113.out 3).trans rfl
                  have hfz28_0 := blk_frozen BK113.out 0
                  have hfz28_1 := blk_frozen BK113.out 1
                  have hfz28_2 := blk_frozen BK113.out 2
                  have hfz28_3 := blk_frozen BK113.out 3
                  try go_wp2_with (fail)
                  repeat (first | (go_step3; try go_wp2_with (fail)) | (go_quiet (fail); try go_wp2_with (fail)))
                  (try rw [Exit.noGoto_ret])
                  refine bodyPost_ret (results_ct rfl _ _ gb113 23 #[.string ((rd_T23 l0 x14_1).f0), .string ((rd_T23 l0 x14_1).f1), .bool ((rd_T23 l0 x14_1).f2), .bool ((rd_T23 l0 x14_1).f3)] (0, 0) _ rfl (by (with_reducible repeat (first | refine blk_drewN ?_ _ | refine blk_drew ?_ | refine blk_alloc ?_ _)); refine blk_put (cs := #[.string ((rd_T23 l0 x14_1).f0), .string ((rd_T23 l0 x14_1).f1), .bool ((rd_T23 l0 x14_1).f2), .bool x114003_1]) ?_ 3 _ rfl; (with_reducible repeat (first | refine blk_drewN ?_ _ | refine blk_drew ?_ | refine blk_alloc ?_ _)); refine blk_put (cs := #[.string ((rd_T23 l0 x14_1).f0), .string ((rd_T23 l0 x14_1).f1), .bool x114002_1, .bool x114003_1]) ?_ 2 _ rfl; (with_reducible repeat (first | refine blk_drewN ?_ _ | refine blk_drew ?_ | refine blk_alloc ?_ _)); refine blk_put (cs := #[.string ((rd_T23 l0 x14_1).f0), .string x114001_1, .bool x114002_1, .bool x114003_1]) ?_ 1 _ rfl; (with_reducible repeat (first | refine blk_drewN ?_ _ | refine blk_drew ?_ | refine blk_alloc ?_ _)); refine blk_put (cs := #[.string x114000_1, .string x114001_1, .bool x114002_1, .bool x114003_1]) ?_ 0 _ rfl; (with_reducible repeat (first | refine blk_drewN ?_ _ | refine blk_drew ?_ | refine blk_alloc ?_ _)); exact BK113.out) Try.underlying23 rfl (by kernel_rfl)) rfl ?_
                  exact ⟨by first | rfl | (simp [errW_none, errW_some] <;> rfl) | (simp [*, errW_none, errW_some] <;> rfl), by repeat (first | (with_reducible first | exact HB.out | apply below_alloc | apply pw_below_drewN | apply below_drew1 | refine below_set ?_ GE112.out | refine below_set ?_ GE113.out | refine below_set ?_ GE115.out) | exact HB.out)⟩
                  all_goals (exfalso; (try simp only [pwB, pwD, pwN] at c3b0); (try simp only [pwB, pwD, pwN] at c3b1); (try simp only [pwB, pwD, pwN] at c13b0); (try simp only [pwB, pwD, pwN] at c14b0); (try simp only [pwB, pwD, pwN] at c15b0); (try simp only [pwB, pwD, pwN] at c16b0); (try simp only [pwB, pwD, pwN] at c16b1); (try simp only [pwB, pwD, pwN] at c18b0); (try simp only [pwB, pwD, pwN] at c18b1); (try unfold wrap64 at *); omega)
                · rw [if_neg c18] at H
                  have c18b0 : (t116.toList == a1_1.toList) = false := beq_eq_false_iff_ne.mpr c18
                  have c18b1 : (t116.toList != a1_1.toList) = true := bne_iff_ne.mpr c18
                  have H' := Aside0.mk H
                  clear H
                  have p114 : 0 ≤ (x14_1 : Int) := of_decide_eq_true zqka65_
                  have q114 : x14_1 < (l0.length : Int) := of_decide_eq_true zqka65_
                  obtain ⟨ad114, e114, hx114_0, hx114_1, hx114_2, hx114_3⟩ := at_T23 HR0.out x14_1 p114 q114
                  cases e114
                  replace hx114_0 := (HB.out.cell (World.block_lt_of_cell? w _ hx114_0)).trans hx114_0
                  replace hx114_1 := (HB.out.cell (World.block_lt_of_cell? w _ hx114_1)).trans hx114_1
                  replace hx114_2 := (HB.out.cell (World.block_lt_of_cell? w _ hx114_2)).trans hx114_2
                  replace hx114_3 := (HB.out.cell (World.block_lt_of_cell? w _ hx114_3)).trans hx114_3
                  replace p114 := eq_true p114
                  replace q114 := eq_true q114
                  try go_wp2_with (first | ((with_reducible refine gate_dst (N := 7) rfl ?_); refine box_event ?hg (N := 7) ?hd (cs := #[.string (⟨#[]⟩ : ByteArray), .string (⟨#[]⟩ : ByteArray), .bool false, .bool false]) (t := 23) ?hr ?_; (case hd => rfl); (case hg => rfl); (case hr => first | (go_simp; done) | (go_simp; rfl) | (go_simp; congr 4; (try congr 1); (try simp only [IntKind.wrap_u8, IntKind.wrap_u32]); (try unfold wrap64); omega)); intro gb115 hg w29 hbox hb; have n0_ := Aside0.mk (blk_below (g := gb112) (o := .cells #[.string a1_0, .string a1_1, .int .i64 a1_2, .bool a1_3, .bool a1_4, .bool a1_5, .slice A1_6 l1_6.length c1_6, .slice A1_7 l1_7.length c1_7, .slice A1_8 l1_8.length c1_8, .int .i64 a1_9] 28 (0, 0)) zqka60_ hb); have n1_ := Aside0.mk (blk_below (g := gb113) (o := .cells #[.string x114000_1, .string x114001_1, .bool x114002_1, .bool x114003_1] 23 (0, 0)) zqka62_ hb); have n2_ := Aside0.mk (below_step zqka61_ hb); have n3_ := Aside0.mk (hbox); have n4_ := Aside0.mk ((by rw [hg]; exact (below_size zqka61_) : w.heap.size ≤ gb115)); have n5_ := Aside0.mk ((by rw [hg]; exact (below_size zqka61_) : w.heap.size ≤ gb115)); have n6_ := Aside0.mk ((by rw [hg]; exact Nat.ne_of_lt (blk_lt (g := gb112) (o := .cells #[.string a1_0, .string a1_1, .int .i64 a1_2, .bool a1_3, .bool a1_4, .bool a1_5, .slice A1_6 l1_6.length c1_6, .slice A1_7 l1_7.length c1_7, .slice A1_8 l1_8.length c1_8, .int .i64 a1_9] 28 (0, 0)) zqka60_) : gb112 ≠ gb115)); have n7_ := Aside0.mk ((by rw [hg]; exact Nat.ne_of_gt (blk_lt (g := gb112) (o := .cells #[.string a1_0, .string a1_1, .int .i64 a1_2, .bool a1_3, .bool a1_4, .bool a1_5, .slice A1_6 l1_6.length c1_6, .slice A1_7 l1_7.length c1_7, .slice A1_8 l1_8.length c1_8, .int .i64 a1_9] 28 (0, 0)) zqka60_) : gb115 ≠ gb112)); have n8_ := Aside0.mk ((by rw [hg]; exact Nat.ne_of_lt (blk_lt (g := gb113) (o := .cells #[.string x114000_1, .string x114001_1, .bool x114002_1, .bool x114003_1] 23 (0, 0)) zqka62_) : gb113 ≠ gb115)); have n9_ := Aside0.mk ((by rw [hg]; exact Nat.ne_of_gt (blk_lt (g := gb113) (o := .cells #[.string x114000_1, .string x114001_1, .bool x114002_1, .bool x114003_1] 23 (0, 0)) zqka62_) : gb115 ≠ gb113)); clear BK112; clear BK113; clear HB; have BK112 := n0_; have BK113 := n1_; have HB := n2_; have BK115 := n3_; have GW115 := n4_; have GE115 := n5_; have NB112_115 := n6_; have NB115_112 := n7_; have NB113_115 := n8_; have NB115_113 := n9_; clear n0_ n1_ n2_ n3_ n4_ n5_ n6_ n7_ n8_ n9_; clear hb hbox hg; have hnb30 := NB115_112.out; have hnc30 := NB112_115.out; have hnb31 := NB115_113.out; have hnc31 := NB113_115.out; have hcz32_0 : w29.cell? ⟨gb115, 0, none⟩ = some (.string (⟨#[]⟩ : ByteArray)) := (blk_cell BK115.out 0).trans rfl; have hcz32_1 : w29.cell? ⟨gb115, 1, none⟩ = some (.string (⟨#[]⟩ : ByteArray)) := (blk_cell BK115.out 1).trans rfl; have hcz32_2 : w29.cell? ⟨gb115, 2, none⟩ = some (.bool false) := (blk_cell BK115.out 2).trans rfl; have hcz32_3 : w29.cell? ⟨gb115, 3, none⟩ = some (.bool false) := (blk_cell BK115.out 3).trans rfl; have hfz32_0 := blk_frozen BK115.out 0; have hfz32_1 := blk_frozen BK115.out 1; have hfz32_2 := blk_frozen BK115.out 2; have hfz32_3 := blk_frozen BK115.out 3))
                  repeat (first | (go_step3; try go_wp2_with (first | ((with_reducible refine gate_dst (N := 7) rfl ?_); refine box_event ?hg (N := 7) ?hd (cs := #[.string (⟨#[]⟩ : ByteArray), .string (⟨#[]⟩ : ByteArray), .bool false, .bool false]) (t := 23) ?hr ?_; (case hd => rfl); (case hg => rfl); (case hr => first | (go_simp; done) | (go_simp; rfl) | (go_simp; congr 4; (try congr 1); (try simp only [IntKind.wrap_u8, IntKind.wrap_u32]); (try unfold wrap64); omega)); intro gb115 hg w29 hbox hb; have n0_ := Aside0.mk (blk_below (g := gb112) (o := .cells #[.string a1_0, .string a1_1, .int .i64 a1_2, .bool a1_3, .bool a1_4, .bool a1_5, .slice A1_6 l1_6.length c1_6, .slice A1_7 l1_7.length c1_7, .slice A1_8 l1_8.length c1_8, .int .i64 a1_9] 28 (0, 0)) zqka60_ hb); have n1_ := Aside0.mk (blk_below (g := gb113) (o := .cells #[.string x114000_1, .string x114001_1, .bool x114002_1, .bool x114003_1] 23 (0, 0)) zqka62_ hb); have n2_ := Aside0.mk (below_step zqka61_ hb); have n3_ := Aside0.mk (hbox); have n4_ := Aside0.mk ((by rw [hg]; exact (below_size zqka61_) : w.heap.size ≤ gb115)); have n5_ := Aside0.mk ((by rw [hg]; exact (below_size zqka61_) : w.heap.size ≤ gb115)); have n6_ := Aside0.mk ((by rw [hg]; exact Nat.ne_of_lt (blk_lt (g := gb112) (o := .cells #[.string a1_0, .string a1_1, .int .i64 a1_2, .bool a1_3, .bool a1_4, .bool a1_5, .slice A1_6 l1_6.length c1_6, .slice A1_7 l1_7.length c1_7, .slice A1_8 l1_8.length c1_8, .int .i64 a1_9] 28 (0, 0)) zqka60_) : gb112 ≠ gb115)); have n7_ := Aside0.mk ((by rw [hg]; exact Nat.ne_of_gt (blk_lt (g := gb112) (o := .cells #[.string a1_0, .string a1_1, .int .i64 a1_2, .bool a1_3, .bool a1_4, .bool a1_5, .slice A1_6 l1_6.length c1_6, .slice A1_7 l1_7.length c1_7, .slice A1_8 l1_8.length c1_8, .int .i64 a1_9] 28 (0, 0)) zqka60_) : gb115 ≠ gb112)); have n8_ := Aside0.mk ((by rw [hg]; exact Nat.ne_of_lt (blk_lt (g := gb113) (o := .cells #[.string x114000_1, .string x114001_1, .bool x114002_1, .bool x114003_1] 23 (0, 0)) zqka62_) : gb113 ≠ gb115)); have n9_ := Aside0.mk ((by rw [hg]; exact Nat.ne_of_gt (blk_lt (g := gb113) (o := .cells #[.string x114000_1, .string x114001_1, .bool x114002_1, .bool x114003_1] 23 (0, 0)) zqka62_) : gb115 ≠ gb113)); clear BK112; clear BK113; clear HB; have BK112 := n0_; have BK113 := n1_; have HB := n2_; have BK115 := n3_; have GW115 := n4_; have GE115 := n5_; have NB112_115 := n6_; have NB115_112 := n7_; have NB113_115 := n8_; have NB115_113 := n9_; clear n0_ n1_ n2_ n3_ n4_ n5_ n6_ n7_ n8_ n9_; clear hb hbox hg; have hnb30 := NB115_112.out; have hnc30 := NB112_115.out; have hnb31 := NB115_113.out; have hnc31 := NB113_115.out; have hcz32_0 : w29.cell? ⟨gb115, 0, none⟩ = some (.string (⟨#[]⟩ : ByteArray)) := (blk_cell BK115.out 0).trans rfl; have hcz32_1 : w29.cell? ⟨gb115, 1, none⟩ = some (.string (⟨#[]⟩ : ByteArray)) := (blk_cell BK115.out 1).trans rfl; have hcz32_2 : w29.cell? ⟨gb115, 2, none⟩ = some (.bool false) := (blk_cell BK115.out 2).trans rfl; have hcz32_3 : w29.cell? ⟨gb115, 3, none⟩ = some (.bool false) := (blk_cell BK115.out 3).trans rfl; have hfz32_0 := blk_frozen BK115.out 0; have hfz32_1 := blk_frozen BK115.out 1; have hfz32_2 := blk_frozen BK115.out 2; have hfz32_3 := blk_frozen BK115.out 3))) | (go_quiet (first | ((with_reducible refine gate_dst (N := 7) rfl ?_); refine box_event ?hg (N := 7) ?hd (cs := #[.string (⟨#[]⟩ : ByteArray), .string (⟨#[]⟩ : ByteArray), .bool false, .bool false]) (t := 23) ?hr ?_; (case hd => rfl); (case hg => rfl); (case hr => first | (go_simp; done) | (go_simp; rfl) | (go_simp; congr 4; (try congr 1); (try simp only [IntKind.wrap_u8, IntKind.wrap_u32]); (try unfold wrap64); omega)); intro gb115 hg w29 hbox hb; have n0_ := Aside0.mk (blk_below (g := gb112) (o := .cells #[.string a1_0, .string a1_1, .int .i64 a1_2, .bool a1_3, .bool a1_4, .bool a1_5, .slice A1_6 l1_6.length c1_6, .slice A1_7 l1_7.length c1_7, .slice A1_8 l1_8.length c1_8, .int .i64 a1_9] 28 (0, 0)) zqka60_ hb); have n1_ := Aside0.mk (blk_below (g := gb113) (o := .cells #[.string x114000_1, .string x114001_1, .bool x114002_1, .bool x114003_1] 23 (0, 0)) zqka62_ hb); have n2_ := Aside0.mk (below_step zqka61_ hb); have n3_ := Aside0.mk (hbox); have n4_ := Aside0.mk ((by rw [hg]; exact (below_size zqka61_) : w.heap.size ≤ gb115)); have n5_ := Aside0.mk ((by rw [hg]; exact (below_size zqka61_) : w.heap.size ≤ gb115)); have n6_ := Aside0.mk ((by rw [hg]; exact Nat.ne_of_lt (blk_lt (g := gb112) (o := .cells #[.string a1_0, .string a1_1, .int .i64 a1_2, .bool a1_3, .bool a1_4, .bool a1_5, .slice A1_6 l1_6.length c1_6, .slice A1_7 l1_7.length c1_7, .slice A1_8 l1_8.length c1_8, .int .i64 a1_9] 28 (0, 0)) zqka60_) : gb112 ≠ gb115)); have n7_ := Aside0.mk ((by rw [hg]; exact Nat.ne_of_gt (blk_lt (g := gb112) (o := .cells #[.string a1_0, .string a1_1, .int .i64 a1_2, .bool a1_3, .bool a1_4, .bool a1_5, .slice A1_6 l1_6.length c1_6, .slice A1_7 l1_7.length c1_7, .slice A1_8 l1_8.length c1_8, .int .i64 a1_9] 28 (0, 0)) zqka60_) : gb115 ≠ gb112)); have n8_ := Aside0.mk ((by rw [hg]; exact Nat.ne_of_lt (blk_lt (g := gb113) (o := .cells #[.string x114000_1, .string x114001_1, .bool x114002_1, .bool x114003_1] 23 (0, 0)) zqka62_) : gb113 ≠ gb115)); have n9_ := Aside0.mk ((by rw [hg]; exact Nat.ne_of_gt (blk_lt (g := gb113) (o := .cells #[.string x114000_1, .string x114001_1, .bool x114002_1, .bool x114003_1] 23 (0, 0)) zqka62_) : gb115 ≠ gb113)); clear BK112; clear BK113; clear HB; have BK112 := n0_; have BK113 := n1_; have HB := n2_; have BK115 := n3_; have GW115 := n4_; have GE115 := n5_; have NB112_115 := n6_; have NB115_112 := n7_; have NB113_115 := n8_; have NB115_113 := n9_; clear n0_ n1_ n2_ n3_ n4_ n5_ n6_ n7_ n8_ n9_; clear hb hbox hg; have hnb30 := NB115_112.out; have hnc30 := NB112_115.out; have hnb31 := NB115_113.out; have hnc31 := NB113_115.out; have hcz32_0 : w29.cell? ⟨gb115, 0, none⟩ = some (.string (⟨#[]⟩ : ByteArray)) := (blk_cell BK115.out 0).trans rfl; have hcz32_1 : w29.cell? ⟨gb115, 1, none⟩ = some (.string (⟨#[]⟩ : ByteArray)) := (blk_cell BK115.out 1).trans rfl; have hcz32_2 : w29.cell? ⟨gb115, 2, none⟩ = some (.bool false) := (blk_cell BK115.out 2).trans rfl; have hcz32_3 : w29.cell? ⟨gb115, 3, none⟩ = some (.bool false) := (blk_cell BK115.out 3).trans rfl; have hfz32_0 := blk_frozen BK115.out 0; have hfz32_1 := blk_frozen BK115.out 1; have hfz32_2 := blk_frozen BK115.out 2; have hfz32_3 := blk_frozen BK115.out 3)); try go_wp2_with (first | ((with_reducible refine gate_dst (N := 7) rfl ?_); refine box_event ?hg (N := 7) ?hd (cs := #[.string (⟨#[]⟩ : ByteArray), .string (⟨#[]⟩ : ByteArray), .bool false, .bool false]) (t := 23) ?hr ?_; (case hd => rfl); (case hg => rfl); (case hr => first | (go_simp; done) | (go_simp; rfl) | (go_simp; congr 4; (try congr 1); (try simp only [IntKind.wrap_u8, IntKind.wrap_u32]); (try unfold wrap64); omega)); intro gb115 hg w29 hbox hb; have n0_ := Aside0.mk (blk_below (g := gb112) (o := .cells #[.string a1_0, .string a1_1, .int .i64 a1_2, .bool a1_3, .bool a1_4, .bool a1_5, .slice A1_6 l1_6.length c1_6, .slice A1_7 l1_7.length c1_7, .slice A1_8 l1_8.length c1_8, .int .i64 a1_9] 28 (0, 0)) zqka60_ hb); have n1_ := Aside0.mk (blk_below (g := gb113) (o := .cells #[.string x114000_1, .string x114001_1, .bool x114002_1, .bool x114003_1] 23 (0, 0)) zqka62_ hb); have n2_ := Aside0.mk (below_step zqka61_ hb); have n3_ := Aside0.mk (hbox); have n4_ := Aside0.mk ((by rw [hg]; exact (below_size zqka61_) : w.heap.size ≤ gb115)); have n5_ := Aside0.mk ((by rw [hg]; exact (below_size zqka61_) : w.heap.size ≤ gb115)); have n6_ := Aside0.mk ((by rw [hg]; exact Nat.ne_of_lt (blk_lt (g := gb112) (o := .cells #[.string a1_0, .string a1_1, .int .i64 a1_2, .bool a1_3, .bool a1_4, .bool a1_5, .slice A1_6 l1_6.length c1_6, .slice A1_7 l1_7.length c1_7, .slice A1_8 l1_8.length c1_8, .int .i64 a1_9] 28 (0, 0)) zqka60_) : gb112 ≠ gb115)); have n7_ := Aside0.mk ((by rw [hg]; exact Nat.ne_of_gt (blk_lt (g := gb112) (o := .cells #[.string a1_0, .string a1_1, .int .i64 a1_2, .bool a1_3, .bool a1_4, .bool a1_5, .slice A1_6 l1_6.length c1_6, .slice A1_7 l1_7.length c1_7, .slice A1_8 l1_8.length c1_8, .int .i64 a1_9] 28 (0, 0)) zqka60_) : gb115 ≠ gb112)); have n8_ := Aside0.mk ((by rw [hg]; exact Nat.ne_of_lt (blk_lt (g := gb113) (o := .cells #[.string x114000_1, .string x114001_1, .bool x114002_1, .bool x114003_1] 23 (0, 0)) zqka62_) : gb113 ≠ gb115)); have n9_ := Aside0.mk ((by rw [hg]; exact Nat.ne_of_gt (blk_lt (g := gb113) (o := .cells #[.string x114000_1, .string x114001_1, .bool x114002_1, .bool x114003_1] 23 (0, 0)) zqka62_) : gb115 ≠ gb113)); clear BK112; clear BK113; clear HB; have BK112 := n0_; have BK113 := n1_; have HB := n2_; have BK115 := n3_; have GW115 := n4_; have GE115 := n5_; have NB112_115 := n6_; have NB115_112 := n7_; have NB113_115 := n8_; have NB115_113 := n9_; clear n0_ n1_ n2_ n3_ n4_ n5_ n6_ n7_ n8_ n9_; clear hb hbox hg; have hnb30 := NB115_112.out; have hnc30 := NB112_115.out; have hnb31 := NB115_113.out; have hnc31 := NB113_115.out; have hcz32_0 : w29.cell? ⟨gb115, 0, none⟩ = some (.string (⟨#[]⟩ : ByteArray)) := (blk_cell BK115.out 0).trans rfl; have hcz32_1 : w29.cell? ⟨gb115, 1, none⟩ = some (.string (⟨#[]⟩ : ByteArray)) := (blk_cell BK115.out 1).trans rfl; have hcz32_2 : w29.cell? ⟨gb115, 2, none⟩ = some (.bool false) := (blk_cell BK115.out 2).trans rfl; have hcz32_3 : w29.cell? ⟨gb115, 3, none⟩ = some (.bool false) := (blk_cell BK115.out 3).trans rfl; have hfz32_0 := blk_frozen BK115.out 0; have hfz32_1 := blk_frozen BK115.out 1; have hfz32_2 := blk_frozen BK115.out 2; have hfz32_3 := blk_frozen BK115.out 3))))
                  have n0_ : Aside0 (((((w29.setCell ⟨gb115, 0, none⟩ (.string ((rd_T23 l0 x14_1).f0))).setCell ⟨gb115, 1, none⟩ (.string ((rd_T23 l0 x14_1).f1))).setCell ⟨gb115, 2, none⟩ (.bool ((rd_T23 l0 x14_1).f2))).setCell ⟨gb115, 3, none⟩ (.bool ((rd_T23 l0 x14_1).f3))).heap[gb112]? = some (.cells #[.string a1_0, .string a1_1, .int .i64 a1_2, .bool a1_3, .bool a1_4, .bool a1_5, .slice A1_6 l1_6.length c1_6, .slice A1_7 l1_7.length c1_7, .slice A1_8 l1_8.length c1_8, .int .i64 a1_9] 28 (0, 0))) := ⟨by (with_reducible repeat (first | refine blk_drewN ?_ _ | refine blk_drew ?_ | refine blk_alloc ?_ _)); refine blk_far ?_ NB112_115.out _; (with_reducible repeat (first | refine blk_drewN ?_ _ | refine blk_drew ?_ | refine blk_alloc ?_ _)); refine blk_far ?_ NB112_115.out _; (with_reducible repeat (first | refine blk_drewN ?_ _ | refine blk_drew ?_ | refine blk_alloc ?_ _)); refine blk_far ?_ NB112_115.out _; (with_reducible repeat (first | refine blk_drewN ?_ _ | refine blk_drew ?_ | refine blk_alloc ?_ _)); refine blk_far ?_ NB112_115.out _; (with_reducible repeat (first | refine blk_drewN ?_ _ | refine blk_drew ?_ | refine blk_alloc ?_ _)); exact BK112.out⟩
                  have n1_ : Aside0 (((((w29.setCell ⟨gb115, 0, none⟩ (.string ((rd_T23 l0 x14_1).f0))).setCell ⟨gb115, 1, none⟩ (.string ((rd_T23 l0 x14_1).f1))).setCell ⟨gb115, 2, none⟩ (.bool ((rd_T23 l0 x14_1).f2))).setCell ⟨gb115, 3, none⟩ (.bool ((rd_T23 l0 x14_1).f3))).heap[gb113]? = some (.cells #[.string x114000_1, .string x114001_1, .bool x114002_1, .bool x114003_1] 23 (0, 0))) := ⟨by (with_reducible repeat (first | refine blk_drewN ?_ _ | refine blk_drew ?_ | refine blk_alloc ?_ _)); refine blk_far ?_ NB113_115.out _; (with_reducible repeat (first | refine blk_drewN ?_ _ | refine blk_drew ?_ | refine blk_alloc ?_ _)); refine blk_far ?_ NB113_115.out _; (with_reducible repeat (first | refine blk_drewN ?_ _ | refine blk_drew ?_ | refine blk_alloc ?_ _)); refine blk_far ?_ NB113_115.out _; (with_reducible repeat (first | refine blk_drewN ?_ _ | refine blk_drew ?_ | refine blk_alloc ?_ _)); refine blk_far ?_ NB113_115.out _; (with_reducible repeat (first | refine blk_drewN ?_ _ | refine blk_drew ?_ | refine blk_alloc ?_ _)); exact BK113.out⟩
                  have n2_ : Aside0 (((((w29.setCell ⟨gb115, 0, none⟩ (.string ((rd_T23 l0 x14_1).f0))).setCell ⟨gb115, 1, none⟩ (.string ((rd_T23 l0 x14_1).f1))).setCell ⟨gb115, 2, none⟩ (.bool ((rd_T23 l0 x14_1).f2))).setCell ⟨gb115, 3, none⟩ (.bool ((rd_T23 l0 x14_1).f3))).heap[gb115]? = some (.cells #[.string ((rd_T23 l0 x14_1).f0), .string ((rd_T23 l0 x14_1).f1), .bool ((rd_T23 l0 x14_1).f2), .bool ((rd_T23 l0 x14_1).f3)] 23 (0, 0))) := ⟨by (with_reducible repeat (first | refine blk_drewN ?_ _ | refine blk_drew ?_ | refine blk_alloc ?_ _)); refine blk_put (cs := #[.string ((rd_T23 l0 x14_1).f0), .string ((rd_T23 l0 x14_1).f1), .bool ((rd_T23 l0 x14_1).f2), .bool false]) ?_ 3 _ rfl; (with_reducible repeat (first | refine blk_drewN ?_ _ | refine blk_drew ?_ | refine blk_alloc ?_ _)); refine blk_put (cs := #[.string ((rd_T23 l0 x14_1).f0), .string ((rd_T23 l0 x14_1).f1), .bool false, .bool false]) ?_ 2 _ rfl; (with_reducible repeat (first | refine blk_drewN ?_ _ | refine blk_drew ?_ | refine blk_alloc ?_ _)); refine blk_put (cs := #[.string ((rd_T23 l0 x14_1).f0), .string (⟨#[]⟩ : ByteArray), .bool false, .bool false]) ?_ 1 _ rfl; (with_reducible repeat (first | refine blk_drewN ?_ _ | refine blk_drew ?_ | refine blk_alloc ?_ _)); refine blk_put (cs := #[.string (⟨#[]⟩ : ByteArray), .string (⟨#[]⟩ : ByteArray), .bool false, .bool false]) ?_ 0 _ rfl; (with_reducible repeat (first | refine blk_drewN ?_ _ | refine blk_drew ?_ | refine blk_alloc ?_ _)); exact BK115.out⟩
                  have n3_ : Aside0 (Below w.heap.size w ((((w29.setCell ⟨gb115, 0, none⟩ (.string ((rd_T23 l0 x14_1).f0))).setCell ⟨gb115, 1, none⟩ (.string ((rd_T23 l0 x14_1).f1))).setCell ⟨gb115, 2, none⟩ (.bool ((rd_T23 l0 x14_1).f2))).setCell ⟨gb115, 3, none⟩ (.bool ((rd_T23 l0 x14_1).f3)))) := ⟨by repeat (first | (with_reducible first | exact HB.out | apply below_alloc | apply pw_below_drewN | apply below_drew1 | refine below_set ?_ GE112.out | refine below_set ?_ GE113.out | refine below_set ?_ GE115.out) | exact HB.out)⟩
                  (try clear BK112)
                  (try clear BK113)
                  (try clear BK115)
                  (try clear HB)
                  generalize ((((w29.setCell ⟨gb115, 0, none⟩ (.string ((rd_T23 l0 x14_1).f0))).setCell ⟨gb115, 1, none⟩ (.string ((rd_T23 l0 x14_1).f1))).setCell ⟨gb115, 2, none⟩ (.bool ((rd_T23 l0 x14_1).f2))).setCell ⟨gb115, 3, none⟩ (.bool ((rd_T23 l0 x14_1).f3))) = w33 at n0_ n1_ n2_ n3_ ⊢
                  have BK112 := n0_
                  have BK113 := n1_
                  have BK115 := n2_
                  have HB := n3_
                  clear n0_ n1_ n2_ n3_
                  (try (generalize hdn_ : World.drewN w33 _ = wdn_ at ⊢; obtain ⟨n_, hdn_⟩ : ∃ n, World.drewN w33 n = wdn_ := ⟨_, hdn_⟩; have m0_ := blk_drewN BK112.out n_; rw [hdn_] at m0_; have m0_ := Aside0.mk m0_; have m1_ := blk_drewN BK113.out n_; rw [hdn_] at m1_; have m1_ := Aside0.mk m1_; have m2_ := blk_drewN BK115.out n_; rw [hdn_] at m2_; have m2_ := Aside0.mk m2_; have m3_ := pw_below_drewN HB.out n_; rw [hdn_] at m3_; have m3_ := Aside0.mk m3_; clear hdn_ BK112 BK113 BK115 HB; have BK112 := m0_; have BK113 := m1_; have BK115 := m2_; have HB := m3_; clear m0_ m1_ m2_ m3_))
                  have n0_ := Aside0.mk (blk_drew BK112.out)
                  have n1_ := Aside0.mk (blk_drew BK113.out)
                  have n2_ := Aside0.mk (blk_drew BK115.out)
                  have n3_ := Aside0.mk (below_drew1 HB.out)
                  clear BK112
                  clear BK113
                  clear BK115
                  clear HB
                  have BK112 := n0_
                  have BK113 := n1_
                  have BK115 := n2_
                  have HB := n3_
                  clear n0_ n1_ n2_ n3_
                  refine start_ (n := 16) (S := fun w' => w'.cell? ⟨gb115, 0, none⟩ = some (.string ((rd_T23 l0 x14_1).f0)) ∧ w'.cell? ⟨gb115, 1, none⟩ = some (.string ((rd_T23 l0 x14_1).f1)) ∧ w'.cell? ⟨gb115, 2, none⟩ = some (.bool ((rd_T23 l0 x14_1).f2)) ∧ w'.cell? ⟨gb115, 3, none⟩ = some (.bool ((rd_T23 l0 x14_1).f3)) ∧ w'.cell? ⟨gb112, 0, none⟩ = some (.string a1_0) ∧ w'.cell? ⟨gb112, 1, none⟩ = some (.string a1_1) ∧ w'.cell? ⟨gb112, 2, none⟩ = some (.int .i64 a1_2) ∧ w'.cell? ⟨gb112, 3, none⟩ = some (.bool a1_3) ∧ w'.cell? ⟨gb112, 4, none⟩ = some (.bool a1_4) ∧ w'.cell? ⟨gb112, 5, none⟩ = some (.bool a1_5) ∧ w'.cell? ⟨gb112, 6, none⟩ = some (.slice A1_6 l1_6.length c1_6) ∧ w'.cell? ⟨gb112, 7, none⟩ = some (.slice A1_7 l1_7.length c1_7) ∧ w'.cell? ⟨gb112, 8, none⟩ = some (.slice A1_8 l1_8.length c1_8) ∧ w'.cell? ⟨gb112, 9, none⟩ = some (.int .i64 a1_9)) (ds := []) zbka60_ (by kernel_rfl) rfl rfl ⟨(blk_cell BK115.out 0).trans rfl, (blk_cell BK115.out 1).trans rfl, (blk_cell BK115.out 2).trans rfl, (blk_cell BK115.out 3).trans rfl, (blk_cell BK112.out 0).trans rfl, (blk_cell BK112.out 1).trans rfl, (blk_cell BK112.out 2).trans rfl, (blk_cell BK112.out 3).trans rfl, (blk_cell BK112.out 4).trans rfl, (blk_cell BK112.out 5).trans rfl, (blk_cell BK112.out 6).trans rfl, (blk_cell BK112.out 7).trans rfl, (blk_cell BK112.out 8).trans rfl, (blk_cell BK112.out 9).trans rfl⟩ (fun hHeld => ?_); refine with_tabW login_Check.tab6 login_Check.bits6 (fun HT_ HW_ => ?_)
                  (first | generalize wdn_.drew = w34 at BK112 BK113 BK115 HB hHeld ⊢ | generalize w33.drew = w34 at BK112 BK113 BK115 HB hHeld ⊢)
                  refine pure_ (i := 0) (N := some 18) (v := ?_) (a' := ?_) zbka61_ rfl rfl (any_of HT_.out (by kernel_rfl)) (fun _ _ _ h => h) (Or.inl ⟨by rfl, ?_⟩) ?_ ?_
                  rotate_left
                  · intro w'
                    go_simp
                    with_reducible rfl
                  rotate_left
                  · simp only [Act.put, List.setIfInBounds_toArray, List.set_cons_zero, List.set_cons_succ, i64_w, i32_w]
                    rfl
                  refine pure_ (i := 2) (N := some 20) (v := ?_) (a' := ?_) zbka62_ rfl rfl (any_of HT_.out (by kernel_rfl)) (fun _ _ _ h => h) (Or.inl ⟨by rfl, ?_⟩) ?_ ?_
                  rotate_left
                  · intro w'
                    go_simp
                    with_reducible rfl
                  rotate_left
                  · simp only [Act.put, List.setIfInBounds_toArray, List.set_cons_zero, List.set_cons_succ, i64_w, i32_w]
                    rfl
                  refine take_ (i := 1) (N := some 19) (v := ?_) (a' := ?_) zbka63_ rfl rfl (take_ofW HT_.out HW_.out (by kernel_rfl)) (fun _ _ _ h => h) (Or.inl ⟨by rfl, ?_⟩) hHeld ?_ ?_
                  rotate_left
                  · rintro w' ⟨s0, s1, s2, s3, s4, s5, s6, s7, s8, s9, s10, s11, s12, s13⟩
                    go_simp
                    with_reducible rfl
                  rotate_left
                  · simp only [Act.put, List.setIfInBounds_toArray, List.set_cons_zero, List.set_cons_succ, i64_w, i32_w]
                    rfl
                  refine take_ (i := 3) (N := some 21) (v := ?_) (a' := ?_) zbka64_ rfl rfl (take_ofW HT_.out HW_.out (by kernel_rfl)) (fun _ _ _ h => h) (Or.inl ⟨by rfl, ?_⟩) hHeld ?_ ?_
                  rotate_left
                  · rintro w' ⟨s0, s1, s2, s3, s4, s5, s6, s7, s8, s9, s10, s11, s12, s13⟩
                    go_simp
                    with_reducible rfl
                  rotate_left
                  · simp only [Act.put, List.setIfInBounds_toArray, List.set_cons_zero, List.set_cons_succ, i64_w, i32_w]
                    rfl
                  refine pure_ (i := 4) (N := some 22) (v := ?_) (a' := ?_) zbka65_ rfl rfl (any_of HT_.out (by kernel_rfl)) (fun _ _ _ h => h) (Or.inl ⟨by rfl, ?_⟩) ?_ ?_
                  rotate_left
                  · intro w'
                    go_simp
                    with_reducible rfl
                  rotate_left
                  · simp only [Act.put, List.setIfInBounds_toArray, List.set_cons_zero, List.set_cons_succ, i64_w, i32_w]
                    rfl
                  refine pure_ (i := 5) (N := some 23) (v := ?_) (a' := ?_) zbka66_ rfl rfl (any_of HT_.out (by kernel_rfl)) (fun _ _ _ h => h) (Or.inl ⟨by rfl, ?_⟩) ?_ ?_
                  rotate_left
                  · intro w'
                    go_simp
                    with_reducible rfl
                  rotate_left
                  · simp only [Act.put, List.setIfInBounds_toArray, List.set_cons_zero, List.set_cons_succ, i64_w, i32_w]
                    rfl
                  refine pure_ (i := 6) (N := some 24) (v := ?_) (a' := ?_) zbka67_ rfl rfl (any_of HT_.out (by kernel_rfl)) (fun _ _ _ h => h) (Or.inl ⟨by rfl, ?_⟩) ?_ ?_
                  rotate_left
                  · intro w'
                    go_simp
                    with_reducible rfl
                  rotate_left
                  · simp only [Act.put, List.setIfInBounds_toArray, List.set_cons_zero, List.set_cons_succ, i64_w, i32_w]
                    rfl
                  refine pure_ (i := 8) (N := some 26) (v := ?_) (a' := ?_) #[true, true, true, true, true, true, true, false, true, false, false, false, false, false, false, false] rfl rfl (any_of HT_.out (by kernel_rfl)) (fun _ _ _ h => h) (Or.inl ⟨by rfl, ?_⟩) ?_ ?_
                  rotate_left
                  · intro w'
                    go_simp
                    with_reducible rfl
                  rotate_left
                  · simp only [Act.put, List.setIfInBounds_toArray, List.set_cons_zero, List.set_cons_succ, i64_w, i32_w]
                    rfl
                  refine pure_ (i := 12) (N := some 30) (v := ?_) (a' := ?_) #[true, true, true, true, true, true, true, false, true, false, false, false, true, false, false, false] rfl rfl (any_of HT_.out (by kernel_rfl)) (fun _ _ _ h => h) (Or.inl ⟨by rfl, ?_⟩) ?_ ?_
                  rotate_left
                  · intro w'
                    go_simp
                    with_reducible rfl
                  rotate_left
                  · simp only [Act.put, List.setIfInBounds_toArray, List.set_cons_zero, List.set_cons_succ, i64_w, i32_w]
                    rfl
                  refine take_ (i := 7) (N := some 25) (v := ?_) (a' := ?_) #[true, true, true, true, true, true, true, true, true, false, false, false, true, false, false, false] rfl rfl (take_ofW HT_.out HW_.out (by kernel_rfl)) (fun _ _ _ h => h) (Or.inl ⟨by rfl, ?_⟩) hHeld ?_ ?_
                  rotate_left
                  · rintro w' ⟨s0, s1, s2, s3, s4, s5, s6, s7, s8, s9, s10, s11, s12, s13⟩
                    go_simp
                    with_reducible rfl
                  rotate_left
                  · simp only [Act.put, List.setIfInBounds_toArray, List.set_cons_zero, List.set_cons_succ, i64_w, i32_w]
                    rfl
                  refine take_ (i := 9) (N := some 27) (v := ?_) (a' := ?_) #[true, true, true, true, true, true, true, true, true, true, false, false, true, false, false, false] rfl rfl (take_ofW HT_.out HW_.out (by kernel_rfl)) (fun _ _ _ h => h) (Or.inl ⟨by rfl, ?_⟩) hHeld ?_ ?_
                  rotate_left
                  · rintro w' ⟨s0, s1, s2, s3, s4, s5, s6, s7, s8, s9, s10, s11, s12, s13⟩
                    go_simp
                    with_reducible rfl
                  rotate_left
                  · simp only [Act.put, List.setIfInBounds_toArray, List.set_cons_zero, List.set_cons_succ, i64_w, i32_w]
                    rfl
                  refine take_ (i := 10) (N := some 28) (v := ?_) (a' := ?_) #[true, true, true, true, true, true, true, true, true, true, true, false, true, false, false, false] rfl rfl (take_ofW HT_.out HW_.out (by kernel_rfl)) (fun _ _ _ h => h) (Or.inl ⟨by rfl, ?_⟩) hHeld ?_ ?_
                  rotate_left
                  · rintro w' ⟨s0, s1, s2, s3, s4, s5, s6, s7, s8, s9, s10, s11, s12, s13⟩
                    go_simp
                    with_reducible rfl
                  rotate_left
                  · simp only [Act.put, List.setIfInBounds_toArray, List.set_cons_zero, List.set_cons_succ, i64_w, i32_w]
                    rfl
                  refine take_ (i := 13) (N := some 31) (v := ?_) (a' := ?_) #[true, true, true, true, true, true, true, true, true, true, true, false, true, true, false, false] rfl rfl (take_ofW HT_.out HW_.out (by kernel_rfl)) (fun _ _ _ h => h) (Or.inl ⟨by rfl, ?_⟩) hHeld ?_ ?_
                  rotate_left
                  · rintro w' ⟨s0, s1, s2, s3, s4, s5, s6, s7, s8, s9, s10, s11, s12, s13⟩
                    go_simp
                    with_reducible rfl
                  rotate_left
                  · simp only [Act.put, List.setIfInBounds_toArray, List.set_cons_zero, List.set_cons_succ, i64_w, i32_w]
                    rfl
                  refine one_ (i := 11) (N := some 29) zbka68_ rfl rfl (one_of HT_.out (by kernel_rfl)) (by decide) (fun K hK => ?_)
                  refine goes_ Try.func14 (by kernel_rfl) rfl #[.string ((rd_T23 l0 x14_1).f0), .string ((rd_T23 l0 x14_1).f1), .agg #[.string a1_0, .string a1_1, .int .i64 a1_2, .bool a1_3, .bool a1_4, .bool a1_5, .slice A1_6 l1_6.length c1_6, .slice A1_7 l1_7.length c1_7, .slice A1_8 l1_8.length c1_8, .int .i64 a1_9]] (by rfl) rfl rfl (by (try simp only [List.map_toArray, List.map_cons, List.map_nil]); first | done | rfl | (simp only [List.length_drop, List.length_take]; rfl)) ?_
                  with_reducible refine (login_Sig.calls ((rd_T23 l0 x14_1).f0) ((rd_T23 l0 x14_1).f1) a1_0 a1_1 a1_2 a1_3 a1_4 a1_5 _ _ l1_6 _ _ l1_7 _ _ l1_8 a1_9 t116 _ ?side1 ?side2 ?side3 ?side4 ?side5 ?side6 A17.out).mono ?_
                  (case side1 => repeat (first | exact (Kd.C_below HR1_6.out HB.out) | (with_reducible refine Kd.C_alloc ?_ _) | (with_reducible refine Kd.C_drewN ?_ _) | (with_reducible refine Kd.C_drew ?_)))
                  (case side2 => exact HC1_6.out)
                  (case side3 => repeat (first | exact (Kd.C_below HR1_7.out HB.out) | (with_reducible refine Kd.C_alloc ?_ _) | (with_reducible refine Kd.C_drewN ?_ _) | (with_reducible refine Kd.C_drew ?_)))
                  (case side4 => exact HC1_7.out)
                  (case side5 => repeat (first | exact (Kd.C_below HR1_8.out HB.out) | (with_reducible refine Kd.C_alloc ?_ _) | (with_reducible refine Kd.C_drewN ?_ _) | (with_reducible refine Kd.C_drew ?_)))
                  (case side6 => exact HC1_8.out)
                  rintro e w35 ⟨rfl, hb⟩
                  refine ⟨_, rfl, ?_⟩
                  have n0_ := Aside0.mk (blk_below (g := gb112) (o := .cells #[.string a1_0, .string a1_1, .int .i64 a1_2, .bool a1_3, .bool a1_4, .bool a1_5, .slice A1_6 l1_6.length c1_6, .slice A1_7 l1_7.length c1_7, .slice A1_8 l1_8.length c1_8, .int .i64 a1_9] 28 (0, 0)) zqka60_ hb)
                  have n1_ := Aside0.mk (blk_below (g := gb113) (o := .cells #[.string x114000_1, .string x114001_1, .bool x114002_1, .bool x114003_1] 23 (0, 0)) zqka62_ hb)
                  have n2_ := Aside0.mk (blk_below (g := gb115) (o := .cells #[.string ((rd_T23 l0 x14_1).f0), .string ((rd_T23 l0 x14_1).f1), .bool ((rd_T23 l0 x14_1).f2), .bool ((rd_T23 l0 x14_1).f3)] 23 (0, 0)) (by (with_reducible repeat (first | refine blk_drewN ?_ _ | refine blk_drew ?_ | refine blk_alloc ?_ _)); exact BK115.out) hb)
                  have n3_ := Aside0.mk (below_step zqka66_ hb)
                  clear BK112
                  clear BK113
                  clear BK115
                  clear HB
                  have BK112 := n0_
                  have BK113 := n1_
                  have BK115 := n2_
                  have HB := n3_
                  clear n0_ n1_ n2_ n3_
                  (try clear hb)
                  (try clear hb2)
                  (try clear hk)
                  (try clear hi)
                  refine hK.out _ _ ⟨(blk_cell BK115.out 0).trans rfl, (blk_cell BK115.out 1).trans rfl, (blk_cell BK115.out 2).trans rfl, (blk_cell BK115.out 3).trans rfl, (blk_cell BK112.out 0).trans rfl, (blk_cell BK112.out 1).trans rfl, (blk_cell BK112.out 2).trans rfl, (blk_cell BK112.out 3).trans rfl, (blk_cell BK112.out 4).trans rfl, (blk_cell BK112.out 5).trans rfl, (blk_cell BK112.out 6).trans rfl, (blk_cell BK112.out 7).trans rfl, (blk_cell BK112.out 8).trans rfl, (blk_cell BK112.out 9).trans rfl⟩ (fun hHeld => ?_)
                  clear hK K
                  refine norm_ (a' := ?_) ?_ ?_
                  rotate_left
                  · show Act.put _ (some 29) _ = _
                    simp only [Act.put, List.setIfInBounds_toArray, List.set_cons_zero, List.set_cons_succ, i64_w, i32_w]
                    rfl
                  refine pure_ (i := 14) (N := some 32) (v := ?_) (a' := ?_) zbka69_ rfl rfl (any_of HT_.out (by kernel_rfl)) (fun _ _ _ h => h) (Or.inl ⟨by rfl, ?_⟩) ?_ ?_
                  rotate_left
                  · intro w'
                    go_simp
                    with_reducible rfl
                  rotate_left
                  · simp only [Act.put, List.setIfInBounds_toArray, List.set_cons_zero, List.set_cons_succ, i64_w, i32_w]
                    rfl
                  refine pure_ (i := 15) (N := some 33) (v := ?_) (a' := ?_) zbka610_ rfl rfl (any_of HT_.out (by kernel_rfl)) (fun _ _ _ h => h) (Or.inl ⟨by rfl, ?_⟩) ?_ ?_
                  rotate_left
                  · intro w'
                    go_simp
                    with_reducible rfl
                  rotate_left
                  · simp only [Act.put, List.setIfInBounds_toArray, List.set_cons_zero, List.set_cons_succ, i64_w, i32_w]
                    rfl
                  refine done_ (done_of HT_.out (by kernel_rfl)) ?_
                  try go_wp2_with (fail)
                  repeat (first | (go_step3; try go_wp2_with (fail)) | (go_quiet (fail); try go_wp2_with (fail)))
                  go_roundg k1
                  case measure => have := HK1.out; omega
                  case rel => exact ⟨(wrap64 (x14_1 + 1)), (x114000_1), (x114001_1), (x114002_1), (x114003_1), (by first | rfl | (simp; done) | (simp [*]; done)), H', ⟨by have := HK1.out; omega⟩, ⟨by (with_reducible repeat (first | refine blk_drewN ?_ _ | refine blk_drew ?_ | refine blk_alloc ?_ _)); exact BK112.out⟩, ⟨by (with_reducible repeat (first | refine blk_drewN ?_ _ | refine blk_drew ?_ | refine blk_alloc ?_ _)); exact BK113.out⟩, ⟨by repeat (first | (with_reducible first | exact HB.out | apply below_alloc | apply pw_below_drewN | apply below_drew1 | refine below_set ?_ GE112.out | refine below_set ?_ GE113.out | refine below_set ?_ GE115.out) | exact HB.out)⟩⟩
                  all_goals (exfalso; (try simp only [pwB, pwD, pwN] at c3b0); (try simp only [pwB, pwD, pwN] at c3b1); (try simp only [pwB, pwD, pwN] at c13b0); (try simp only [pwB, pwD, pwN] at c14b0); (try simp only [pwB, pwD, pwN] at c15b0); (try simp only [pwB, pwD, pwN] at c16b0); (try simp only [pwB, pwD, pwN] at c16b1); (try simp only [pwB, pwD, pwN] at c18b0); (try simp only [pwB, pwD, pwN] at c18b1); (try unfold wrap64 at *); omega)
              · rw [if_neg c16] at H
                have c16b0 : (((rd_T23 l0 x14_1).f0).toList == a1_0.toList) = false := beq_eq_false_iff_ne.mpr c16
                have c16b1 : (((rd_T23 l0 x14_1).f0).toList != a1_0.toList) = true := bne_iff_ne.mpr c16
                have H' := Aside0.mk H
                clear H
                have p114 : 0 ≤ (x14_1 : Int) := of_decide_eq_true zqka65_
                have q114 : x14_1 < (l0.length : Int) := of_decide_eq_true zqka65_
                obtain ⟨ad114, e114, hx114_0, hx114_1, hx114_2, hx114_3⟩ := at_T23 HR0.out x14_1 p114 q114
                cases e114
                replace hx114_0 := (HB.out.cell (World.block_lt_of_cell? w _ hx114_0)).trans hx114_0
                replace hx114_1 := (HB.out.cell (World.block_lt_of_cell? w _ hx114_1)).trans hx114_1
                replace hx114_2 := (HB.out.cell (World.block_lt_of_cell? w _ hx114_2)).trans hx114_2
                replace hx114_3 := (HB.out.cell (World.block_lt_of_cell? w _ hx114_3)).trans hx114_3
                replace p114 := eq_true p114
                replace q114 := eq_true q114
                try go_wp2_with (first | ((with_reducible refine gate_dst (N := 7) rfl ?_); refine box_event ?hg (N := 7) ?hd (cs := #[.string (⟨#[]⟩ : ByteArray), .string (⟨#[]⟩ : ByteArray), .bool false, .bool false]) (t := 23) ?hr ?_; (case hd => rfl); (case hg => rfl); (case hr => first | (go_simp; done) | (go_simp; rfl) | (go_simp; congr 4; (try congr 1); (try simp only [IntKind.wrap_u8, IntKind.wrap_u32]); (try unfold wrap64); omega)); intro gb115 hg w36 hbox hb; have n0_ := Aside0.mk (blk_below (g := gb112) (o := .cells #[.string a1_0, .string a1_1, .int .i64 a1_2, .bool a1_3, .bool a1_4, .bool a1_5, .slice A1_6 l1_6.length c1_6, .slice A1_7 l1_7.length c1_7, .slice A1_8 l1_8.length c1_8, .int .i64 a1_9] 28 (0, 0)) zqka60_ hb); have n1_ := Aside0.mk (blk_below (g := gb113) (o := .cells #[.string x114000_1, .string x114001_1, .bool x114002_1, .bool x114003_1] 23 (0, 0)) zqka62_ hb); have n2_ := Aside0.mk (below_step zqka61_ hb); have n3_ := Aside0.mk (hbox); have n4_ := Aside0.mk ((by rw [hg]; exact (below_size zqka61_) : w.heap.size ≤ gb115)); have n5_ := Aside0.mk ((by rw [hg]; exact (below_size zqka61_) : w.heap.size ≤ gb115)); have n6_ := Aside0.mk ((by rw [hg]; exact Nat.ne_of_lt (blk_lt (g := gb112) (o := .cells #[.string a1_0, .string a1_1, .int .i64 a1_2, .bool a1_3, .bool a1_4, .bool a1_5, .slice A1_6 l1_6.length c1_6, .slice A1_7 l1_7.length c1_7, .slice A1_8 l1_8.length c1_8, .int .i64 a1_9] 28 (0, 0)) zqka60_) : gb112 ≠ gb115)); have n7_ := Aside0.mk ((by rw [hg]; exact Nat.ne_of_gt (blk_lt (g := gb112) (o := .cells #[.string a1_0, .string a1_1, .int .i64 a1_2, .bool a1_3, .bool a1_4, .bool a1_5, .slice A1_6 l1_6.length c1_6, .slice A1_7 l1_7.length c1_7, .slice A1_8 l1_8.length c1_8, .int .i64 a1_9] 28 (0, 0)) zqka60_) : gb115 ≠ gb112)); have n8_ := Aside0.mk ((by rw [hg]; exact Nat.ne_of_lt (blk_lt (g := gb113) (o := .cells #[.string x114000_1, .string x114001_1, .bool x114002_1, .bool x114003_1] 23 (0, 0)) zqka62_) : gb113 ≠ gb115)); have n9_ := Aside0.mk ((by rw [hg]; exact Nat.ne_of_gt (blk_lt (g := gb113) (o := .cells #[.string x114000_1, .string x114001_1, .bool x114002_1, .bool x114003_1] 23 (0, 0)) zqka62_) : gb115 ≠ gb113)); clear BK112; clear BK113; clear HB; have BK112 := n0_; have BK113 := n1_; have HB := n2_; have BK115 := n3_; have GW115 := n4_; have GE115 := n5_; have NB112_115 := n6_; have NB115_112 := n7_; have NB113_115 := n8_; have NB115_113 := n9_; clear n0_ n1_ n2_ n3_ n4_ n5_ n6_ n7_ n8_ n9_; clear hb hbox hg; have hnb37 := NB115_112.out; have hnc37 := NB112_115.out; have hnb38 := NB115_113.out; have hnc38 := NB113_115.out; have hcz39_0 : w36.cell? ⟨gb115, 0, none⟩ = some (.string (⟨#[]⟩ : ByteArray)) := (blk_cell BK115.out 0).trans rfl; have hcz39_1 : w36.cell? ⟨gb115, 1, none⟩ = some (.string (⟨#[]⟩ : ByteArray)) := (blk_cell BK115.out 1).trans rfl; have hcz39_2 : w36.cell? ⟨gb115, 2, none⟩ = some (.bool false) := (blk_cell BK115.out 2).trans rfl; have hcz39_3 : w36.cell? ⟨gb115, 3, none⟩ = some (.bool false) := (blk_cell BK115.out 3).trans rfl; have hfz39_0 := blk_frozen BK115.out 0; have hfz39_1 := blk_frozen BK115.out 1; have hfz39_2 := blk_frozen BK115.out 2; have hfz39_3 := blk_frozen BK115.out 3))
                repeat (first | (go_step3; try go_wp2_with (first | ((with_reducible refine gate_dst (N := 7) rfl ?_); refine box_event ?hg (N := 7) ?hd (cs := #[.string (⟨#[]⟩ : ByteArray), .string (⟨#[]⟩ : ByteArray), .bool false, .bool false]) (t := 23) ?hr ?_; (case hd => rfl); (case hg => rfl); (case hr => first | (go_simp; done) | (go_simp; rfl) | (go_simp; congr 4; (try congr 1); (try simp only [IntKind.wrap_u8, IntKind.wrap_u32]); (try unfold wrap64); omega)); intro gb115 hg w36 hbox hb; have n0_ := Aside0.mk (blk_below (g := gb112) (o := .cells #[.string a1_0, .string a1_1, .int .i64 a1_2, .bool a1_3, .bool a1_4, .bool a1_5, .slice A1_6 l1_6.length c1_6, .slice A1_7 l1_7.length c1_7, .slice A1_8 l1_8.length c1_8, .int .i64 a1_9] 28 (0, 0)) zqka60_ hb); have n1_ := Aside0.mk (blk_below (g := gb113) (o := .cells #[.string x114000_1, .string x114001_1, .bool x114002_1, .bool x114003_1] 23 (0, 0)) zqka62_ hb); have n2_ := Aside0.mk (below_step zqka61_ hb); have n3_ := Aside0.mk (hbox); have n4_ := Aside0.mk ((by rw [hg]; exact (below_size zqka61_) : w.heap.size ≤ gb115)); have n5_ := Aside0.mk ((by rw [hg]; exact (below_size zqka61_) : w.heap.size ≤ gb115)); have n6_ := Aside0.mk ((by rw [hg]; exact Nat.ne_of_lt (blk_lt (g := gb112) (o := .cells #[.string a1_0, .string a1_1, .int .i64 a1_2, .bool a1_3, .bool a1_4, .bool a1_5, .slice A1_6 l1_6.length c1_6, .slice A1_7 l1_7.length c1_7, .slice A1_8 l1_8.length c1_8, .int .i64 a1_9] 28 (0, 0)) zqka60_) : gb112 ≠ gb115)); have n7_ := Aside0.mk ((by rw [hg]; exact Nat.ne_of_gt (blk_lt (g := gb112) (o := .cells #[.string a1_0, .string a1_1, .int .i64 a1_2, .bool a1_3, .bool a1_4, .bool a1_5, .slice A1_6 l1_6.length c1_6, .slice A1_7 l1_7.length c1_7, .slice A1_8 l1_8.length c1_8, .int .i64 a1_9] 28 (0, 0)) zqka60_) : gb115 ≠ gb112)); have n8_ := Aside0.mk ((by rw [hg]; exact Nat.ne_of_lt (blk_lt (g := gb113) (o := .cells #[.string x114000_1, .string x114001_1, .bool x114002_1, .bool x114003_1] 23 (0, 0)) zqka62_) : gb113 ≠ gb115)); have n9_ := Aside0.mk ((by rw [hg]; exact Nat.ne_of_gt (blk_lt (g := gb113) (o := .cells #[.string x114000_1, .string x114001_1, .bool x114002_1, .bool x114003_1] 23 (0, 0)) zqka62_) : gb115 ≠ gb113)); clear BK112; clear BK113; clear HB; have BK112 := n0_; have BK113 := n1_; have HB := n2_; have BK115 := n3_; have GW115 := n4_; have GE115 := n5_; have NB112_115 := n6_; have NB115_112 := n7_; have NB113_115 := n8_; have NB115_113 := n9_; clear n0_ n1_ n2_ n3_ n4_ n5_ n6_ n7_ n8_ n9_; clear hb hbox hg; have hnb37 := NB115_112.out; have hnc37 := NB112_115.out; have hnb38 := NB115_113.out; have hnc38 := NB113_115.out; have hcz39_0 : w36.cell? ⟨gb115, 0, none⟩ = some (.string (⟨#[]⟩ : ByteArray)) := (blk_cell BK115.out 0).trans rfl; have hcz39_1 : w36.cell? ⟨gb115, 1, none⟩ = some (.string (⟨#[]⟩ : ByteArray)) := (blk_cell BK115.out 1).trans rfl; have hcz39_2 : w36.cell? ⟨gb115, 2, none⟩ = some (.bool false) := (blk_cell BK115.out 2).trans rfl; have hcz39_3 : w36.cell? ⟨gb115, 3, none⟩ = some (.bool false) := (blk_cell BK115.out 3).trans rfl; have hfz39_0 := blk_frozen BK115.out 0; have hfz39_1 := blk_frozen BK115.out 1; have hfz39_2 := blk_frozen BK115.out 2; have hfz39_3 := blk_frozen BK115.out 3))) | (go_quiet (first | ((with_reducible refine gate_dst (N := 7) rfl ?_); refine box_event ?hg (N := 7) ?hd (cs := #[.string (⟨#[]⟩ : ByteArray), .string (⟨#[]⟩ : ByteArray), .bool false, .bool false]) (t := 23) ?hr ?_; (case hd => rfl); (case hg => rfl); (case hr => first | (go_simp; done) | (go_simp; rfl) | (go_simp; congr 4; (try congr 1); (try simp only [IntKind.wrap_u8, IntKind.wrap_u32]); (try unfold wrap64); omega)); intro gb115 hg w36 hbox hb; have n0_ := Aside0.mk (blk_below (g := gb112) (o := .cells #[.string a1_0, .string a1_1, .int .i64 a1_2, .bool a1_3, .bool a1_4, .bool a1_5, .slice A1_6 l1_6.length c1_6, .slice A1_7 l1_7.length c1_7, .slice A1_8 l1_8.length c1_8, .int .i64 a1_9] 28 (0, 0)) zqka60_ hb); have n1_ := Aside0.mk (blk_below (g := gb113) (o := .cells #[.string x114000_1, .string x114001_1, .bool x114002_1, .bool x114003_1] 23 (0, 0)) zqka62_ hb); have n2_ := Aside0.mk (below_step zqka61_ hb); have n3_ := Aside0.mk (hbox); have n4_ := Aside0.mk ((by rw [hg]; exact (below_size zqka61_) : w.heap.size ≤ gb115)); have n5_ := Aside0.mk ((by rw [hg]; exact (below_size zqka61_) : w.heap.size ≤ gb115)); have n6_ := Aside0.mk ((by rw [hg]; exact Nat.ne_of_lt (blk_lt (g := gb112) (o := .cells #[.string a1_0, .string a1_1, .int .i64 a1_2, .bool a1_3, .bool a1_4, .bool a1_5, .slice A1_6 l1_6.length c1_6, .slice A1_7 l1_7.length c1_7, .slice A1_8 l1_8.length c1_8, .int .i64 a1_9] 28 (0, 0)) zqka60_) : gb112 ≠ gb115)); have n7_ := Aside0.mk ((by rw [hg]; exact Nat.ne_of_gt (blk_lt (g := gb112) (o := .cells #[.string a1_0, .string a1_1, .int .i64 a1_2, .bool a1_3, .bool a1_4, .bool a1_5, .slice A1_6 l1_6.length c1_6, .slice A1_7 l1_7.length c1_7, .slice A1_8 l1_8.length c1_8, .int .i64 a1_9] 28 (0, 0)) zqka60_) : gb115 ≠ gb112)); have n8_ := Aside0.mk ((by rw [hg]; exact Nat.ne_of_lt (blk_lt (g := gb113) (o := .cells #[.string x114000_1, .string x114001_1, .bool x114002_1, .bool x114003_1] 23 (0, 0)) zqka62_) : gb113 ≠ gb115)); have n9_ := Aside0.mk ((by rw [hg]; exact Nat.ne_of_gt (blk_lt (g := gb113) (o := .cells #[.string x114000_1, .string x114001_1, .bool x114002_1, .bool x114003_1] 23 (0, 0)) zqka62_) : gb115 ≠ gb113)); clear BK112; clear BK113; clear HB; have BK112 := n0_; have BK113 := n1_; have HB := n2_; have BK115 := n3_; have GW115 := n4_; have GE115 := n5_; have NB112_115 := n6_; have NB115_112 := n7_; have NB113_115 := n8_; have NB115_113 := n9_; clear n0_ n1_ n2_ n3_ n4_ n5_ n6_ n7_ n8_ n9_; clear hb hbox hg; have hnb37 := NB115_112.out; have hnc37 := NB112_115.out; have hnb38 := NB115_113.out; have hnc38 := NB113_115.out; have hcz39_0 : w36.cell? ⟨gb115, 0, none⟩ = some (.string (⟨#[]⟩ : ByteArray)) := (blk_cell BK115.out 0).trans rfl; have hcz39_1 : w36.cell? ⟨gb115, 1, none⟩ = some (.string (⟨#[]⟩ : ByteArray)) := (blk_cell BK115.out 1).trans rfl; have hcz39_2 : w36.cell? ⟨gb115, 2, none⟩ = some (.bool false) := (blk_cell BK115.out 2).trans rfl; have hcz39_3 : w36.cell? ⟨gb115, 3, none⟩ = some (.bool false) := (blk_cell BK115.out 3).trans rfl; have hfz39_0 := blk_frozen BK115.out 0; have hfz39_1 := blk_frozen BK115.out 1; have hfz39_2 := blk_frozen BK115.out 2; have hfz39_3 := blk_frozen BK115.out 3)); try go_wp2_with (first | ((with_reducible refine gate_dst (N := 7) rfl ?_); refine box_event ?hg (N := 7) ?hd (cs := #[.string (⟨#[]⟩ : ByteArray), .string (⟨#[]⟩ : ByteArray), .bool false, .bool false]) (t := 23) ?hr ?_; (case hd => rfl); (case hg => rfl); (case hr => first | (go_simp; done) | (go_simp; rfl) | (go_simp; congr 4; (try congr 1); (try simp only [IntKind.wrap_u8, IntKind.wrap_u32]); (try unfold wrap64); omega)); intro gb115 hg w36 hbox hb; have n0_ := Aside0.mk (blk_below (g := gb112) (o := .cells #[.string a1_0, .string a1_1, .int .i64 a1_2, .bool a1_3, .bool a1_4, .bool a1_5, .slice A1_6 l1_6.length c1_6, .slice A1_7 l1_7.length c1_7, .slice A1_8 l1_8.length c1_8, .int .i64 a1_9] 28 (0, 0)) zqka60_ hb); have n1_ := Aside0.mk (blk_below (g := gb113) (o := .cells #[.string x114000_1, .string x114001_1, .bool x114002_1, .bool x114003_1] 23 (0, 0)) zqka62_ hb); have n2_ := Aside0.mk (below_step zqka61_ hb); have n3_ := Aside0.mk (hbox); have n4_ := Aside0.mk ((by rw [hg]; exact (below_size zqka61_) : w.heap.size ≤ gb115)); have n5_ := Aside0.mk ((by rw [hg]; exact (below_size zqka61_) : w.heap.size ≤ gb115)); have n6_ := Aside0.mk ((by rw [hg]; exact Nat.ne_of_lt (blk_lt (g := gb112) (o := .cells #[.string a1_0, .string a1_1, .int .i64 a1_2, .bool a1_3, .bool a1_4, .bool a1_5, .slice A1_6 l1_6.length c1_6, .slice A1_7 l1_7.length c1_7, .slice A1_8 l1_8.length c1_8, .int .i64 a1_9] 28 (0, 0)) zqka60_) : gb112 ≠ gb115)); have n7_ := Aside0.mk ((by rw [hg]; exact Nat.ne_of_gt (blk_lt (g := gb112) (o := .cells #[.string a1_0, .string a1_1, .int .i64 a1_2, .bool a1_3, .bool a1_4, .bool a1_5, .slice A1_6 l1_6.length c1_6, .slice A1_7 l1_7.length c1_7, .slice A1_8 l1_8.length c1_8, .int .i64 a1_9] 28 (0, 0)) zqka60_) : gb115 ≠ gb112)); have n8_ := Aside0.mk ((by rw [hg]; exact Nat.ne_of_lt (blk_lt (g := gb113) (o := .cells #[.string x114000_1, .string x114001_1, .bool x114002_1, .bool x114003_1] 23 (0, 0)) zqka62_) : gb113 ≠ gb115)); have n9_ := Aside0.mk ((by rw [hg]; exact Nat.ne_of_gt (blk_lt (g := gb113) (o := .cells #[.string x114000_1, .string x114001_1, .bool x114002_1, .bool x114003_1] 23 (0, 0)) zqka62_) : gb115 ≠ gb113)); clear BK112; clear BK113; clear HB; have BK112 := n0_; have BK113 := n1_; have HB := n2_; have BK115 := n3_; have GW115 := n4_; have GE115 := n5_; have NB112_115 := n6_; have NB115_112 := n7_; have NB113_115 := n8_; have NB115_113 := n9_; clear n0_ n1_ n2_ n3_ n4_ n5_ n6_ n7_ n8_ n9_; clear hb hbox hg; have hnb37 := NB115_112.out; have hnc37 := NB112_115.out; have hnb38 := NB115_113.out; have hnc38 := NB113_115.out; have hcz39_0 : w36.cell? ⟨gb115, 0, none⟩ = some (.string (⟨#[]⟩ : ByteArray)) := (blk_cell BK115.out 0).trans rfl; have hcz39_1 : w36.cell? ⟨gb115, 1, none⟩ = some (.string (⟨#[]⟩ : ByteArray)) := (blk_cell BK115.out 1).trans rfl; have hcz39_2 : w36.cell? ⟨gb115, 2, none⟩ = some (.bool false) := (blk_cell BK115.out 2).trans rfl; have hcz39_3 : w36.cell? ⟨gb115, 3, none⟩ = some (.bool false) := (blk_cell BK115.out 3).trans rfl; have hfz39_0 := blk_frozen BK115.out 0; have hfz39_1 := blk_frozen BK115.out 1; have hfz39_2 := blk_frozen BK115.out 2; have hfz39_3 := blk_frozen BK115.out 3))))
                have n0_ : Aside0 (((((w36.setCell ⟨gb115, 0, none⟩ (.string ((rd_T23 l0 x14_1).f0))).setCell ⟨gb115, 1, none⟩ (.string ((rd_T23 l0 x14_1).f1))).setCell ⟨gb115, 2, none⟩ (.bool ((rd_T23 l0 x14_1).f2))).setCell ⟨gb115, 3, none⟩ (.bool ((rd_T23 l0 x14_1).f3))).heap[gb112]? = some (.cells #[.string a1_0, .string a1_1, .int .i64 a1_2, .bool a1_3, .bool a1_4, .bool a1_5, .slice A1_6 l1_6.length c1_6, .slice A1_7 l1_7.length c1_7, .slice A1_8 l1_8.length c1_8, .int .i64 a1_9] 28 (0, 0))) := ⟨by (with_reducible repeat (first | refine blk_drewN ?_ _ | refine blk_drew ?_ | refine blk_alloc ?_ _)); refine blk_far ?_ NB112_115.out _; (with_reducible repeat (first | refine blk_drewN ?_ _ | refine blk_drew ?_ | refine blk_alloc ?_ _)); refine blk_far ?_ NB112_115.out _; (with_reducible repeat (first | refine blk_drewN ?_ _ | refine blk_drew ?_ | refine blk_alloc ?_ _)); refine blk_far ?_ NB112_115.out _; (with_reducible repeat (first | refine blk_drewN ?_ _ | refine blk_drew ?_ | refine blk_alloc ?_ _)); refine blk_far ?_ NB112_115.out _; (with_reducible repeat (first | refine blk_drewN ?_ _ | refine blk_drew ?_ | refine blk_alloc ?_ _)); exact BK112.out⟩
                have n1_ : Aside0 (((((w36.setCell ⟨gb115, 0, none⟩ (.string ((rd_T23 l0 x14_1).f0))).setCell ⟨gb115, 1, none⟩ (.string ((rd_T23 l0 x14_1).f1))).setCell ⟨gb115, 2, none⟩ (.bool ((rd_T23 l0 x14_1).f2))).setCell ⟨gb115, 3, none⟩ (.bool ((rd_T23 l0 x14_1).f3))).heap[gb113]? = some (.cells #[.string x114000_1, .string x114001_1, .bool x114002_1, .bool x114003_1] 23 (0, 0))) := ⟨by (with_reducible repeat (first | refine blk_drewN ?_ _ | refine blk_drew ?_ | refine blk_alloc ?_ _)); refine blk_far ?_ NB113_115.out _; (with_reducible repeat (first | refine blk_drewN ?_ _ | refine blk_drew ?_ | refine blk_alloc ?_ _)); refine blk_far ?_ NB113_115.out _; (with_reducible repeat (first | refine blk_drewN ?_ _ | refine blk_drew ?_ | refine blk_alloc ?_ _)); refine blk_far ?_ NB113_115.out _; (with_reducible repeat (first | refine blk_drewN ?_ _ | refine blk_drew ?_ | refine blk_alloc ?_ _)); refine blk_far ?_ NB113_115.out _; (with_reducible repeat (first | refine blk_drewN ?_ _ | refine blk_drew ?_ | refine blk_alloc ?_ _)); exact BK113.out⟩
                have n2_ : Aside0 (((((w36.setCell ⟨gb115, 0, none⟩ (.string ((rd_T23 l0 x14_1).f0))).setCell ⟨gb115, 1, none⟩ (.string ((rd_T23 l0 x14_1).f1))).setCell ⟨gb115, 2, none⟩ (.bool ((rd_T23 l0 x14_1).f2))).setCell ⟨gb115, 3, none⟩ (.bool ((rd_T23 l0 x14_1).f3))).heap[gb115]? = some (.cells #[.string ((rd_T23 l0 x14_1).f0), .string ((rd_T23 l0 x14_1).f1), .bool ((rd_T23 l0 x14_1).f2), .bool ((rd_T23 l0 x14_1).f3)] 23 (0, 0))) := ⟨by (with_reducible repeat (first | refine blk_drewN ?_ _ | refine blk_drew ?_ | refine blk_alloc ?_ _)); refine blk_put (cs := #[.string ((rd_T23 l0 x14_1).f0), .string ((rd_T23 l0 x14_1).f1), .bool ((rd_T23 l0 x14_1).f2), .bool false]) ?_ 3 _ rfl; (with_reducible repeat (first | refine blk_drewN ?_ _ | refine blk_drew ?_ | refine blk_alloc ?_ _)); refine blk_put (cs := #[.string ((rd_T23 l0 x14_1).f0), .string ((rd_T23 l0 x14_1).f1), .bool false, .bool false]) ?_ 2 _ rfl; (with_reducible repeat (first | refine blk_drewN ?_ _ | refine blk_drew ?_ | refine blk_alloc ?_ _)); refine blk_put (cs := #[.string ((rd_T23 l0 x14_1).f0), .string (⟨#[]⟩ : ByteArray), .bool false, .bool false]) ?_ 1 _ rfl; (with_reducible repeat (first | refine blk_drewN ?_ _ | refine blk_drew ?_ | refine blk_alloc ?_ _)); refine blk_put (cs := #[.string (⟨#[]⟩ : ByteArray), .string (⟨#[]⟩ : ByteArray), .bool false, .bool false]) ?_ 0 _ rfl; (with_reducible repeat (first | refine blk_drewN ?_ _ | refine blk_drew ?_ | refine blk_alloc ?_ _)); exact BK115.out⟩
                have n3_ : Aside0 (Below w.heap.size w ((((w36.setCell ⟨gb115, 0, none⟩ (.string ((rd_T23 l0 x14_1).f0))).setCell ⟨gb115, 1, none⟩ (.string ((rd_T23 l0 x14_1).f1))).setCell ⟨gb115, 2, none⟩ (.bool ((rd_T23 l0 x14_1).f2))).setCell ⟨gb115, 3, none⟩ (.bool ((rd_T23 l0 x14_1).f3)))) := ⟨by repeat (first | (with_reducible first | exact HB.out | apply below_alloc | apply pw_below_drewN | apply below_drew1 | refine below_set ?_ GE112.out | refine below_set ?_ GE113.out | refine below_set ?_ GE115.out) | exact HB.out)⟩
                (try clear BK112)
                (try clear BK113)
                (try clear BK115)
                (try clear HB)
                generalize ((((w36.setCell ⟨gb115, 0, none⟩ (.string ((rd_T23 l0 x14_1).f0))).setCell ⟨gb115, 1, none⟩ (.string ((rd_T23 l0 x14_1).f1))).setCell ⟨gb115, 2, none⟩ (.bool ((rd_T23 l0 x14_1).f2))).setCell ⟨gb115, 3, none⟩ (.bool ((rd_T23 l0 x14_1).f3))) = w40 at n0_ n1_ n2_ n3_ ⊢
                have BK112 := n0_
                have BK113 := n1_
                have BK115 := n2_
                have HB := n3_
                clear n0_ n1_ n2_ n3_
                (try (generalize hdn_ : World.drewN w40 _ = wdn_ at ⊢; obtain ⟨n_, hdn_⟩ : ∃ n, World.drewN w40 n = wdn_ := ⟨_, hdn_⟩; have m0_ := blk_drewN BK112.out n_; rw [hdn_] at m0_; have m0_ := Aside0.mk m0_; have m1_ := blk_drewN BK113.out n_; rw [hdn_] at m1_; have m1_ := Aside0.mk m1_; have m2_ := blk_drewN BK115.out n_; rw [hdn_] at m2_; have m2_ := Aside0.mk m2_; have m3_ := pw_below_drewN HB.out n_; rw [hdn_] at m3_; have m3_ := Aside0.mk m3_; clear hdn_ BK112 BK113 BK115 HB; have BK112 := m0_; have BK113 := m1_; have BK115 := m2_; have HB := m3_; clear m0_ m1_ m2_ m3_))
                have n0_ := Aside0.mk (blk_drew BK112.out)
                have n1_ := Aside0.mk (blk_drew BK113.out)
                have n2_ := Aside0.mk (blk_drew BK115.out)
                have n3_ := Aside0.mk (below_drew1 HB.out)
                clear BK112
                clear BK113
                clear BK115
                clear HB
                have BK112 := n0_
                have BK113 := n1_
                have BK115 := n2_
                have HB := n3_
                clear n0_ n1_ n2_ n3_
                refine start_ (n := 16) (S := fun w' => w'.cell? ⟨gb115, 0, none⟩ = some (.string ((rd_T23 l0 x14_1).f0)) ∧ w'.cell? ⟨gb115, 1, none⟩ = some (.string ((rd_T23 l0 x14_1).f1)) ∧ w'.cell? ⟨gb115, 2, none⟩ = some (.bool ((rd_T23 l0 x14_1).f2)) ∧ w'.cell? ⟨gb115, 3, none⟩ = some (.bool ((rd_T23 l0 x14_1).f3)) ∧ w'.cell? ⟨gb112, 0, none⟩ = some (.string a1_0) ∧ w'.cell? ⟨gb112, 1, none⟩ = some (.string a1_1) ∧ w'.cell? ⟨gb112, 2, none⟩ = some (.int .i64 a1_2) ∧ w'.cell? ⟨gb112, 3, none⟩ = some (.bool a1_3) ∧ w'.cell? ⟨gb112, 4, none⟩ = some (.bool a1_4) ∧ w'.cell? ⟨gb112, 5, none⟩ = some (.bool a1_5) ∧ w'.cell? ⟨gb112, 6, none⟩ = some (.slice A1_6 l1_6.length c1_6) ∧ w'.cell? ⟨gb112, 7, none⟩ = some (.slice A1_7 l1_7.length c1_7) ∧ w'.cell? ⟨gb112, 8, none⟩ = some (.slice A1_8 l1_8.length c1_8) ∧ w'.cell? ⟨gb112, 9, none⟩ = some (.int .i64 a1_9)) (ds := []) zbka60_ (by kernel_rfl) rfl rfl ⟨(blk_cell BK115.out 0).trans rfl, (blk_cell BK115.out 1).trans rfl, (blk_cell BK115.out 2).trans rfl, (blk_cell BK115.out 3).trans rfl, (blk_cell BK112.out 0).trans rfl, (blk_cell BK112.out 1).trans rfl, (blk_cell BK112.out 2).trans rfl, (blk_cell BK112.out 3).trans rfl, (blk_cell BK112.out 4).trans rfl, (blk_cell BK112.out 5).trans rfl, (blk_cell BK112.out 6).trans rfl, (blk_cell BK112.out 7).trans rfl, (blk_cell BK112.out 8).trans rfl, (blk_cell BK112.out 9).trans rfl⟩ (fun hHeld => ?_); refine with_tabW login_Check.tab6 login_Check.bits6 (fun HT_ HW_ => ?_)
                (first | generalize wdn_.drew = w41 at BK112 BK113 BK115 HB hHeld ⊢ | generalize w40.drew = w41 at BK112 BK113 BK115 HB hHeld ⊢)
                refine pure_ (i := 0) (N := some 18) (v := ?_) (a' := ?_) zbka61_ rfl rfl (any_of HT_.out (by kernel_rfl)) (fun _ _ _ h => h) (Or.inl ⟨by rfl, ?_⟩) ?_ ?_
                rotate_left
                · intro w'
                  go_simp
                  with_reducible rfl
                rotate_left
                · simp only [Act.put, List.setIfInBounds_toArray, List.set_cons_zero, List.set_cons_succ, i64_w, i32_w]
                  rfl
                refine pure_ (i := 2) (N := some 20) (v := ?_) (a' := ?_) zbka62_ rfl rfl (any_of HT_.out (by kernel_rfl)) (fun _ _ _ h => h) (Or.inl ⟨by rfl, ?_⟩) ?_ ?_
                rotate_left
                · intro w'
                  go_simp
                  with_reducible rfl
                rotate_left
                · simp only [Act.put, List.setIfInBounds_toArray, List.set_cons_zero, List.set_cons_succ, i64_w, i32_w]
                  rfl
                refine take_ (i := 1) (N := some 19) (v := ?_) (a' := ?_) zbka63_ rfl rfl (take_ofW HT_.out HW_.out (by kernel_rfl)) (fun _ _ _ h => h) (Or.inl ⟨by rfl, ?_⟩) hHeld ?_ ?_
                rotate_left
                · rintro w' ⟨s0, s1, s2, s3, s4, s5, s6, s7, s8, s9, s10, s11, s12, s13⟩
                  go_simp
                  with_reducible rfl
                rotate_left
                · simp only [Act.put, List.setIfInBounds_toArray, List.set_cons_zero, List.set_cons_succ, i64_w, i32_w]
                  rfl
                refine take_ (i := 3) (N := some 21) (v := ?_) (a' := ?_) zbka64_ rfl rfl (take_ofW HT_.out HW_.out (by kernel_rfl)) (fun _ _ _ h => h) (Or.inl ⟨by rfl, ?_⟩) hHeld ?_ ?_
                rotate_left
                · rintro w' ⟨s0, s1, s2, s3, s4, s5, s6, s7, s8, s9, s10, s11, s12, s13⟩
                  go_simp
                  with_reducible rfl
                rotate_left
                · simp only [Act.put, List.setIfInBounds_toArray, List.set_cons_zero, List.set_cons_succ, i64_w, i32_w]
                  rfl
                refine pure_ (i := 4) (N := some 22) (v := ?_) (a' := ?_) zbka65_ rfl rfl (any_of HT_.out (by kernel_rfl)) (fun _ _ _ h => h) (Or.inl ⟨by rfl, ?_⟩) ?_ ?_
                rotate_left
                · intro w'
                  go_simp
                  with_reducible rfl
                rotate_left
                · simp only [Act.put, List.setIfInBounds_toArray, List.set_cons_zero, List.set_cons_succ, i64_w, i32_w]
                  rfl
                refine pure_ (i := 5) (N := some 23) (v := ?_) (a' := ?_) zbka66_ rfl rfl (any_of HT_.out (by kernel_rfl)) (fun _ _ _ h => h) (Or.inl ⟨by rfl, ?_⟩) ?_ ?_
                rotate_left
                · intro w'
                  go_simp
                  with_reducible rfl
                rotate_left
                · simp only [Act.put, List.setIfInBounds_toArray, List.set_cons_zero, List.set_cons_succ, i64_w, i32_w]
                  rfl
                refine pure_ (i := 6) (N := some 24) (v := undef) (a' := ?_) zbka67_ rfl rfl (any_of HT_.out (by kernel_rfl)) (fun _ _ _ h => h) (Or.inr ⟨by rfl, rfl⟩) ?_ ?_
                rotate_left
                · simp only [Act.put, List.setIfInBounds_toArray, List.set_cons_zero, List.set_cons_succ, i64_w, i32_w]
                  rfl
                refine pure_ (i := 7) (N := some 25) (v := undef) (a' := ?_) #[true, true, true, true, true, true, true, true, false, false, false, false, false, false, false, false] rfl rfl (any_of HT_.out (by kernel_rfl)) (fun _ _ _ h => h) (Or.inr ⟨by rfl, rfl⟩) ?_ ?_
                rotate_left
                · simp only [Act.put, List.setIfInBounds_toArray, List.set_cons_zero, List.set_cons_succ, i64_w, i32_w]
                  rfl
                refine pure_ (i := 8) (N := some 26) (v := undef) (a' := ?_) #[true, true, true, true, true, true, true, true, true, false, false, false, false, false, false, false] rfl rfl (any_of HT_.out (by kernel_rfl)) (fun _ _ _ h => h) (Or.inr ⟨by rfl, rfl⟩) ?_ ?_
                rotate_left
                · simp only [Act.put, List.setIfInBounds_toArray, List.set_cons_zero, List.set_cons_succ, i64_w, i32_w]
                  rfl
                refine pure_ (i := 9) (N := some 27) (v := undef) (a' := ?_) #[true, true, true, true, true, true, true, true, true, true, false, false, false, false, false, false] rfl rfl (any_of HT_.out (by kernel_rfl)) (fun _ _ _ h => h) (Or.inr ⟨by rfl, rfl⟩) ?_ ?_
                rotate_left
                · simp only [Act.put, List.setIfInBounds_toArray, List.set_cons_zero, List.set_cons_succ, i64_w, i32_w]
                  rfl
                refine pure_ (i := 10) (N := some 28) (v := undef) (a' := ?_) #[true, true, true, true, true, true, true, true, true, true, true, false, false, false, false, false] rfl rfl (any_of HT_.out (by kernel_rfl)) (fun _ _ _ h => h) (Or.inr ⟨by rfl, rfl⟩) ?_ ?_
                rotate_left
                · simp only [Act.put, List.setIfInBounds_toArray, List.set_cons_zero, List.set_cons_succ, i64_w, i32_w]
                  rfl
                refine pure_ (i := 11) (N := some 29) (v := undef) (a' := ?_) #[true, true, true, true, true, true, true, true, true, true, true, true, false, false, false, false] rfl rfl (any_of HT_.out (by kernel_rfl)) (fun _ _ _ h => h) (Or.inr ⟨by rfl, rfl⟩) ?_ ?_
                rotate_left
                · simp only [Act.put, List.setIfInBounds_toArray, List.set_cons_zero, List.set_cons_succ, i64_w, i32_w]
                  rfl
                refine pure_ (i := 12) (N := some 30) (v := undef) (a' := ?_) #[true, true, true, true, true, true, true, true, true, true, true, true, true, false, false, false] rfl rfl (any_of HT_.out (by kernel_rfl)) (fun _ _ _ h => h) (Or.inr ⟨by rfl, rfl⟩) ?_ ?_
                rotate_left
                · simp only [Act.put, List.setIfInBounds_toArray, List.set_cons_zero, List.set_cons_succ, i64_w, i32_w]
                  rfl
                refine pure_ (i := 13) (N := some 31) (v := undef) (a' := ?_) zbka68_ rfl rfl (any_of HT_.out (by kernel_rfl)) (fun _ _ _ h => h) (Or.inr ⟨by rfl, rfl⟩) ?_ ?_
                rotate_left
                · simp only [Act.put, List.setIfInBounds_toArray, List.set_cons_zero, List.set_cons_succ, i64_w, i32_w]
                  rfl
                refine pure_ (i := 14) (N := some 32) (v := undef) (a' := ?_) zbka69_ rfl rfl (any_of HT_.out (by kernel_rfl)) (fun _ _ _ h => h) (Or.inr ⟨by rfl, rfl⟩) ?_ ?_
                rotate_left
                · simp only [Act.put, List.setIfInBounds_toArray, List.set_cons_zero, List.set_cons_succ, i64_w, i32_w]
                  rfl
                refine pure_ (i := 15) (N := some 33) (v := ?_) (a' := ?_) zbka610_ rfl rfl (any_of HT_.out (by kernel_rfl)) (fun _ _ _ h => h) (Or.inl ⟨by rfl, ?_⟩) ?_ ?_
                rotate_left
                · intro w'
                  go_simp
                  with_reducible rfl
                rotate_left
                · simp only [Act.put, List.setIfInBounds_toArray, List.set_cons_zero, List.set_cons_succ, i64_w, i32_w]
                  rfl
                refine done_ (done_of HT_.out (by kernel_rfl)) ?_
                try go_wp2_with (fail)
                repeat (first | (go_step3; try go_wp2_with (fail)) | (go_quiet (fail); try go_wp2_with (fail)))
                go_roundg k1
                case measure => have := HK1.out; omega
                case rel => exact ⟨(wrap64 (x14_1 + 1)), (x114000_1), (x114001_1), (x114002_1), (x114003_1), (by first | rfl | (simp; done) | (simp [*]; done)), H', ⟨by have := HK1.out; omega⟩, ⟨by (with_reducible repeat (first | refine blk_drewN ?_ _ | refine blk_drew ?_ | refine blk_alloc ?_ _)); exact BK112.out⟩, ⟨by (with_reducible repeat (first | refine blk_drewN ?_ _ | refine blk_drew ?_ | refine blk_alloc ?_ _)); exact BK113.out⟩, ⟨by repeat (first | (with_reducible first | exact HB.out | apply below_alloc | apply pw_below_drewN | apply below_drew1 | refine below_set ?_ GE112.out | refine below_set ?_ GE113.out | refine below_set ?_ GE115.out) | exact HB.out)⟩⟩
                all_goals (exfalso; (try simp only [pwB, pwD, pwN] at c3b0); (try simp only [pwB, pwD, pwN] at c3b1); (try simp only [pwB, pwD, pwN] at c13b0); (try simp only [pwB, pwD, pwN] at c14b0); (try simp only [pwB, pwD, pwN] at c15b0); (try simp only [pwB, pwD, pwN] at c16b0); (try simp only [pwB, pwD, pwN] at c16b1); (try unfold wrap64 at *); omega)
            · rw [if_neg c15] at H
              exact absurd H (by simp)
          · rw [if_neg c14] at H
            exact absurd H (by simp)
        · rw [if_neg c13] at H
          have c13b0 : decide (x14_1 < (l0.length : Int)) = false := decide_eq_false c13
          clear c13
          simp only [Option.some.injEq, Prod.mk.injEq] at H
          obtain ⟨rfl, rfl, rfl, rfl, rfl⟩ := H
          have hnb42 := NB113_112.out
          have hnc42 := NB112_113.out
          have hcz43_0 : wr.cell? ⟨gb113, 0, none⟩ = some (.string x114000_1) := (blk_cell BK113.out 0).trans rfl
          have hcz43_1 : wr.cell? ⟨gb113, 1, none⟩ = some (.string x114001_1) := (blk_cell BK113.out 1).trans rfl
          have hcz43_2 : wr.cell? ⟨gb113, 2, none⟩ = some (.bool x114002_1) := (blk_cell BK113.out 2).trans rfl
          have hcz43_3 : wr.cell? ⟨gb113, 3, none⟩ = some (.bool x114003_1) := (blk_cell BK113.out 3).trans rfl
          have hfz43_0 := blk_frozen BK113.out 0
          have hfz43_1 := blk_frozen BK113.out 1
          have hfz43_2 := blk_frozen BK113.out 2
          have hfz43_3 := blk_frozen BK113.out 3
          try go_wp2_with (fail)
          repeat (first | (go_step3; try go_wp2_with (fail)) | (go_quiet (fail); try go_wp2_with (fail)))
          (try rw [Exit.noGoto_ret])
          refine bodyPost_ret (results_ct rfl _ _ gb113 23 #[.string (⟨#[]⟩ : ByteArray), .string (⟨#[]⟩ : ByteArray), .bool false, .bool false] (0, 0) _ rfl (by (with_reducible repeat (first | refine blk_drewN ?_ _ | refine blk_drew ?_ | refine blk_alloc ?_ _)); refine blk_put (cs := #[.string (⟨#[]⟩ : ByteArray), .string (⟨#[]⟩ : ByteArray), .bool false, .bool x114003_1]) ?_ 3 _ rfl; (with_reducible repeat (first | refine blk_drewN ?_ _ | refine blk_drew ?_ | refine blk_alloc ?_ _)); refine blk_put (cs := #[.string (⟨#[]⟩ : ByteArray), .string (⟨#[]⟩ : ByteArray), .bool x114002_1, .bool x114003_1]) ?_ 2 _ rfl; (with_reducible repeat (first | refine blk_drewN ?_ _ | refine blk_drew ?_ | refine blk_alloc ?_ _)); refine blk_put (cs := #[.string (⟨#[]⟩ : ByteArray), .string x114001_1, .bool x114002_1, .bool x114003_1]) ?_ 1 _ rfl; (with_reducible repeat (first | refine blk_drewN ?_ _ | refine blk_drew ?_ | refine blk_alloc ?_ _)); refine blk_put (cs := #[.string x114000_1, .string x114001_1, .bool x114002_1, .bool x114003_1]) ?_ 0 _ rfl; (with_reducible repeat (first | refine blk_drewN ?_ _ | refine blk_drew ?_ | refine blk_alloc ?_ _)); exact BK113.out) Try.underlying23 rfl (by kernel_rfl)) rfl ?_
          exact ⟨by first | rfl | (simp [errW_none, errW_some] <;> rfl) | (simp [*, errW_none, errW_some] <;> rfl), by repeat (first | (with_reducible first | exact HB.out | apply below_alloc | apply pw_below_drewN | apply below_drew1 | refine below_set ?_ GE112.out | refine below_set ?_ GE113.out) | exact HB.out)⟩
          all_goals (exfalso; (try simp only [pwB, pwD, pwN] at c3b0); (try simp only [pwB, pwD, pwN] at c3b1); (try simp only [pwB, pwD, pwN] at c13b0); (try unfold wrap64 at *); omega)

end Go.Proofs.Ytldbhkhblkgnnaa.Q
