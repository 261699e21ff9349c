/- The so-manieth write is torn, no other; its first bytes are new, the rest as they were; down nothing is written, up it is. For every input. No condition. -/
import Derived.Test.YticpeniaplhpmaaDkRuns
import Derived.Test.YticpeniaplhpmaaWithin
import Derived.Laws.BytesArg
set_option linter.unusedVariables false
set_option linter.unusedSimpArgs false
namespace Go.Proofs.Yticpeniaplhpmaa.Given
open Go.RowKit Go.Proofs.YticpeniaplhpmaaW.PrintWords
theorem nums_len (l : List Int) : (strOfNums l).size = l.length := by simp [strOfNums, ByteArray.size]
theorem wfn {n : Int} (h0 : -9223372036854775808 ≤ n) (h1 : n ≤ 9223372036854775807) : (Lit.int .i64 n).wf = true := by
  simp only [Lit.wf, Bool.and_eq_true, decide_eq_true_eq]
  exact ⟨h0, h1⟩
theorem wr_call {w : World} {b p g : Nat} {D D' : DS} {W : World} {r : Bool} {i : Int} {data : ByteArray} (h : DW w b p g D W) (hb : b ≤ w.heap.size) (hD : D.Ok) (h0 : -9223372036854775808 ≤ i) (h1 : i ≤ 9223372036854775807) (hs : data.size ≤ 9223372036854775807) (hr : D.write i data = (r, D')) :
    Calls Try.prog 9 #[.pointer (some ⟨p, 0, none⟩), .int .i64 i, .string data] W fun e W' => e = .returned (.bool r) ∧ DW w b p g D' W' :=
  (write_call h.disk hD i data (wfn h0 h1) hs).mono fun e W' k => by rw [hr] at k; exact ⟨k.1, h.ch hb k.2.1 k.2.2⟩
theorem dw_new {n : Int} {k : Nat} (w W : World) {b : Nat} (hw : Below b w W) (hb : b ≤ w.heap.size) (hk : max 1 (min n 2000) = (k : Int)) :
    Calls Try.prog 7 #[.int .i64 n] W fun e W' => ∃ p g, e = .returned (.pointer (some ⟨p, 0, none⟩)) ∧ DW w b p g (newD k) W' := by
  refine (new_call n k W hk).mono ?_
  rintro e W' ⟨p, g, rfl, h1, h2⟩
  have hs : b ≤ W.heap.size := Nat.le_trans hb hw.size
  obtain ⟨q1, cap, q2, q3⟩ := h1
  exact ⟨p, g, rfl, ⟨Nat.le_trans hs q1, cap, q2, own_mono q3 hs⟩, hw.trans (h2.mono hs)⟩
theorem arm_dw {w : World} {b p g : Nat} {D : DS} {W : World} (h : DW w b p g D W) (hb : b ≤ w.heap.size) (n k : Int) :
    Calls Try.prog 8 #[.pointer (some ⟨p, 0, none⟩), .int .i64 n, .int .i64 k] W fun e W' => e = .returned (.tuple #[]) ∧ DW w b p g (D.arm n k) W' :=
  (arm_call h.disk n k).mono fun e W' q => ⟨q.1, h.ch hb q.2.1 q.2.2⟩
theorem rev_dw {w : World} {b p g : Nat} {D : DS} {W : World} (h : DW w b p g D W) (hb : b ≤ w.heap.size) :
    Calls Try.prog 14 #[.pointer (some ⟨p, 0, none⟩)] W fun e W' => e = .returned (.tuple #[]) ∧ DW w b p g D.revive W' :=
  (revive_call h.disk).mono fun e W' q => ⟨q.1, h.ch hb q.2.1 q.2.2⟩
theorem rd_dw {w : World} {b p g : Nat} {D : DS} {W : World} {i : Int} {s : ByteArray} {ok : Bool} (h : DW w b p g D W) (hb : b ≤ w.heap.size) (hD : D.Ok) (hr : D.read i = (s, ok)) :
    Calls Try.prog 10 #[.pointer (some ⟨p, 0, none⟩), .int .i64 i] W fun e W' => e = .returned (.tuple #[.string s, .bool ok]) ∧ DW w b p g D W' :=
  (read_call h.disk hD i).mono fun e W' q => by rw [hr] at q; exact ⟨q.1, h.step hb q.2.below⟩
theorem dn_dw {w : World} {b p g : Nat} {D : DS} {W : World} {x : Bool} (h : DW w b p g D W) (hb : b ≤ w.heap.size) (hx : D.down = x) :
    Calls Try.prog 11 #[.pointer (some ⟨p, 0, none⟩)] W fun e W' => e = .returned (.bool x) ∧ DW w b p g D W' :=
  (down_call h.disk).mono fun e W' q => by rw [hx] at q; exact ⟨q.1, h.step hb q.2.below⟩
theorem sc_dw {w : World} {b p g : Nat} {D : DS} {W : World} {k : Nat} (h : DW w b p g D W) (hb : b ≤ w.heap.size) (hk : D.secs.length = k) :
    Calls Try.prog 12 #[.pointer (some ⟨p, 0, none⟩)] W fun e W' => e = .returned (.int .i64 k) ∧ DW w b p g D W' :=
  (sectors_call h.disk).mono fun e W' q => by rw [hk] at q; exact ⟨q.1, h.step hb q.2.below⟩
theorem runs_dw {w : World} {b p g : Nat} {D : DS} {W : World} (h : DW w b p g D W) (hb : b ≤ w.heap.size) :
    Calls Try.prog 3 #[] W fun e W' => e = .returned (.bool true) ∧ DW w b p g D W' :=
  (runs_walk W).mono fun e W' q => ⟨q.1, h.step hb q.2⟩
theorem conv8 (c : Int) (W : World) : (convert 30 9 (.slice (some ⟨W.heap.size, 0, none⟩) 8 8)).run Try.prog (W.alloc (.cells #[.int .u8 c, .int .u8 c, .int .u8 c, .int .u8 c, .int .u8 c, .int .u8 c, .int .u8 c, .int .u8 c] 5)) =
    .ok (.string (strOfNums (List.replicate 8 c))) (W.alloc (.cells #[.int .u8 c, .int .u8 c, .int .u8 c, .int .u8 c, .int .u8 c, .int .u8 c, .int .u8 c, .int .u8 c] 5)) := by
  refine run_convert_bytes_arg _ 30 5 Try.underlying30 Try.underlying5 W.heap.size 0 8 8 (List.replicate 8 c) (by simp) (fun i hi => ?_) 9 Try.underlying9
  rw [Lib.cell_of_heap (World.alloc_heap_new W _), Nat.zero_add]
  rcases (by omega : i = 0 ∨ i = 1 ∨ i = 2 ∨ i = 3 ∨ i = 4 ∨ i = 5 ∨ i = 6 ∨ i = 7) with rfl | rfl | rfl | rfl | rfl | rfl | rfl | rfl <;> rfl
/-- Writes, in clear. -/
theorem write_put {D : DS} {i : Nat} {data : ByteArray} (hd : D.down = false) (hi : i < D.secs.length) (hs : data.size ≤ 32) (ht : D.armed = false ∨ D.left ≠ 0) : D.write i data = (true, { D with secs := D.secs.set i (wholeS data), left := D.left - 1 }) := by
  unfold DS.write
  rw [if_pos ⟨hd, by omega, by omega, hs⟩, if_neg (by rintro ⟨a, b⟩; rcases ht with h | h; rw [h] at a; cases a; exact h b)]
  simp
theorem write_torn {D : DS} {i : Nat} {data : ByteArray} (hd : D.down = false) (hi : i < D.secs.length) (hs : data.size ≤ 32) (ha : D.armed = true) (hl : D.left = 0) : D.write i data = (false, { D with secs := D.secs.set i ((wholeS data).extract 0 D.keep.toNat ++ (D.secs.getD i ⟨#[]⟩).extract D.keep.toNat 32), armed := false, down := true }) := by
  unfold DS.write
  rw [if_pos ⟨hd, by omega, by omega, hs⟩, if_pos ⟨ha, hl⟩]
  simp
theorem write_not {D : DS} {i : Int} {data : ByteArray} (h : D.down = true ∨ (D.secs.length : Int) ≤ i) : D.write i data = (false, D) := by
  unfold DS.write
  rw [if_neg]
  rintro ⟨a, b, c, d⟩
  rcases h with h | h
  · rw [h] at a; cases a
  · omega
/-- Three sectors. -/
def M (x y z : ByteArray) (armed : Bool) (left keep : Int) (down : Bool) : DS := ⟨[x, y, z], armed, left, keep, down⟩
theorem M_ok {x y z : ByteArray} {armed : Bool} {left keep : Int} {down : Bool} (hx : x.size = 32) (hy : y.size = 32) (hz : z.size = 32) (k0 : 0 ≤ keep) (k1 : keep ≤ 32) (l0 : -4611686018427387904 ≤ left) (l1 : left ≤ 9223372036854775807) : (M x y z armed left keep down).Ok :=
  ⟨by show 1 ≤ 3; omega, by show 3 ≤ 2000; omega, fun s hs => by simp [M] at hs; rcases hs with rfl | rfl | rfl <;> assumption, k0, k1, l0, l1⟩
/-- What is written anew. -/
def fresh : ByteArray := ⟨#[49, 50, 51, 52, 53, 54, 55, 56]⟩
theorem ext_list {a b : ByteArray} (h : a.data.toList = b.data.toList) : a = b := ByteArray.ext (Array.toList_inj.1 h)
theorem torn_a (f o : ByteArray) (kq m : Nat) (hf : f.size = 8) (hm : m ≤ kq) (hm8 : m ≤ 8) (hk : kq ≤ 32) : ((wholeS f).extract 0 kq ++ (wholeS o).extract kq 32).extract 0 m = f.extract 0 m := by
  have hl : f.data.toList.length = 8 := by rw [Array.length_toList]; exact hf
  have hWl : (wholeS f).data.toList.length = 32 := by rw [Array.length_toList]; exact wholeS_size f (by omega)
  apply ext_list
  simp only [Lib.extract_data, ByteArray.data_append, Array.toList_append, List.drop_zero, Nat.sub_zero]
  rw [List.take_append_of_le_length (by rw [List.length_take, hWl]; omega), List.take_take, Nat.min_eq_left hm]
  simp only [wholeS, ByteArray.data_append, Array.toList_append]
  rw [List.take_append_of_le_length (by omega)]
theorem torn_b (f o : ByteArray) (kq m : Nat) (hf : f.size = 8) (ho : o.size = 8) (hm : m = min kq 8) (hk : kq ≤ 32) : ((wholeS f).extract 0 kq ++ (wholeS o).extract kq 32).extract m 8 = o.extract m 8 := by
  have hl : f.data.toList.length = 8 := by rw [Array.length_toList]; exact hf
  have hlo : o.data.toList.length = 8 := by rw [Array.length_toList]; exact ho
  have hW := wholeS_size f (by omega)
  have hWl : (wholeS f).data.toList.length = 32 := by rw [Array.length_toList]; exact hW
  apply ext_list
  simp only [Lib.extract_data, ByteArray.data_append, Array.toList_append, List.drop_zero, Nat.sub_zero]
  by_cases h8 : 8 ≤ kq
  · obtain rfl : m = 8 := by omega
    simp
  · obtain rfl : m = kq := by omega
    have e : ((wholeS f).data.toList.take m).length = m := by rw [List.length_take, hWl]; omega
    rw [List.drop_append_of_le_length (by omega), List.drop_of_length_le (by omega), List.nil_append, List.take_take, Nat.min_eq_left (by omega)]
    simp only [wholeS, ByteArray.data_append, Array.toList_append]
    rw [List.drop_append_of_le_length (by omega), List.take_append_of_le_length (by rw [List.length_drop]; omega)]
theorem torn_size (f o : ByteArray) (kq : Nat) (hf : f.size = 8) (ho : o.size = 8) (hk : kq ≤ 32) : ((wholeS f).extract 0 kq ++ (wholeS o).extract kq 32).size = 32 := by
  have h1 := wholeS_size f (by omega)
  have h2 := wholeS_size o (by omega)
  rw [ByteArray.size_append, ByteArray.size_extract, ByteArray.size_extract, h1, h2]
  omega
theorem fresh_back : (wholeS fresh).extract 0 8 = fresh := by kernel_rfl
theorem arm_M (z : ByteArray) (q kq : Nat) (hq : q ≤ 5) (hk : kq ≤ 32) (a : Bool) (l k : Int) (d : Bool) : (M z z z a l k d).arm q kq = M z z z true q kq d := by
  have e1 : max (q : Int) 0 = q := by omega
  have e2 : max 0 (min (kq : Int) 32) = kq := by omega
  show DS.mk [z, z, z] true (max (q : Int) 0) (max 0 (min (kq : Int) 32)) d = _
  rw [e1, e2]
  rfl
set_option maxHeartbeats 8000000 in
set_option maxRecDepth 100000 in
theorem tears_walk (n k m c : Int) (w : World) (hn : (Lit.int .i64 n).wf = true) (hk : (Lit.int .i64 k).wf = true) (hm : (Lit.int .i64 m).wf = true) (hc : (Lit.int .u8 c).wf = true) :
    Calls Try.prog 4 #[.int .i64 n, .int .i64 k, .int .i64 m, .int .u8 c] w fun e w' => e = .returned (.bool true) ∧ Below w.heap.size w w' := by
  have hcv := conv8 c
  have hos : (strOfNums (List.replicate 8 c)).size = 8 := by rw [nums_len]; simp
  generalize strOfNums (List.replicate 8 c) = old at hcv hos
  have hZ := wholeS_size ⟨#[]⟩ (by decide)
  have hN : newD 3 = M (wholeS ⟨#[]⟩) (wholeS ⟨#[]⟩) (wholeS ⟨#[]⟩) false 0 0 false := rfl
  generalize wholeS ⟨#[]⟩ = Z at hZ hN
  have hO := wholeS_size old (by omega)
  obtain ⟨O, hO2⟩ : ∃ O, O = wholeS old := ⟨_, rfl⟩
  rw [← hO2] at hO
  have hst : ∀ (x y z : ByteArray) (l : Int) (i : Nat), i < 3 → (M x y z false l 0 false).write (i : Int) old = (true, M (if i = 0 then O else x) (if i = 1 then O else y) (if i = 2 then O else z) false (l - 1) 0 false) := by
    intro x y z l i hi
    rw [write_put rfl (by show i < 3; exact hi) (by omega) (.inl rfl), ← hO2]
    rcases (by omega : i = 0 ∨ i = 1 ∨ i = 2) with rfl | rfl | rfl <;> rfl
  have ST := Aside0.mk hst
  have HO2 := Aside0.mk hO2
  clear hst hO2
  go_enter Try.func4, Try.ntmps4
  go_wp2_with (first
    | (go_at_call 7; refine (dw_new (k := 3) w _ (Below.refl _ w) (Nat.le_refl _) (by decide)).mono ?_; rw [hN]; rintro e w1 ⟨p, g, rfl, h1⟩; have DA := Aside0.mk (h1.step (Nat.le_refl _) ((Below.refl _ w1).alloc (Nat.le_refl _) (.cells #[.int .u8 c, .int .u8 c, .int .u8 c, .int .u8 c, .int .u8 c, .int .u8 c, .int .u8 c, .int .u8 c] 5))); clear h1 hN))
  clear hcv
  go_loopw [12, 32] (fun v12 v32 wr => ∃ (i : Nat) (x y z : ByteArray), v32 = .int .i64 (i : Int) ∧ i ≤ 3 ∧ x.size = 32 ∧ y.size = 32 ∧ z.size = 32 ∧ (0 < i → x = O) ∧ (1 < i → y = O) ∧ (2 < i → z = O) ∧ Aside0 (DW w w.heap.size p g (M x y z false (-(i : Int)) 0 false) wr)) (fun _ v _ => 3 - (intOf v).toNat)
  case atStart => exact ⟨0, Z, Z, Z, rfl, by omega, hZ, hZ, hZ, by omega, by omega, by omega, DA⟩
  case round =>
    clear DA
    obtain ⟨i, x, y, z, rfl, hi, hx, hy, hz, p1, p2, p3, DA⟩ := hrel
    by_cases hlt : i < 3
    · have hok : (M x y z false (-(i : Int)) 0 false).Ok := M_ok hx hy hz (by omega) (by omega) (by omega) (by omega)
      go_wp2_with (go_at_call 9; refine (wr_call DA.out (Nat.le_refl _) hok (by omega) (by omega) (by omega) (ST.out x y z _ i hlt)).mono ?_; rintro e w2 ⟨rfl, h1⟩; have DB := Aside0.mk h1; clear h1)
      go_roundw
      case rel => exact ⟨i + 1, if i = 0 then O else x, if i = 1 then O else y, if i = 2 then O else z, by go_num, by omega, by split; exact hO; exact hx, by split; exact hO; exact hy, by split; exact hO; exact hz, fun h => by split; rfl; exact p1 (by omega), fun h => by split; rfl; exact p2 (by omega), fun h => by split; rfl; exact p3 (by omega), ⟨by have := DB.out; rw [show -((i : Int)) - 1 = -((i + 1 : Nat) : Int) by omega] at this; exact this⟩⟩
      case measure => simp [intOf]; omega
    · obtain rfl : i = 3 := by omega
      obtain rfl := p1 (by omega)
      obtain rfl := p2 (by omega)
      obtain rfl := p3 (by omega)
      clear hx hy hz p1 p2 p3 ST hlt hi
      have hc8 : (-(((3 : Nat) : Int)) : Int) = -3 := rfl
      go_wp2_with (first
        | (go_at_call 13; (with_reducible refine (within_call n 0 5 _ (by omega) (by omega) (by omega)).mono ?_); rintro e w2 ⟨wn, rfl, n0, n1, d1⟩; have DA := Aside0.mk (DA.out.step (Nat.le_refl _) d1.below); clear d1)
        | (go_at_call 13; (with_reducible refine (within_call k 0 32 _ (by omega) (by omega) (by omega)).mono ?_); rintro e w3 ⟨kk, rfl, k0, k1, d1⟩; have DA := Aside0.mk (DA.out.step (Nat.le_refl _) d1.below); clear d1)
        | (go_at_call 8; (with_reducible refine (arm_dw DA.out (Nat.le_refl _) 99 1).mono ?_); rintro e w4 ⟨rfl, h1⟩; have DA := Aside0.mk h1; clear h1)
        | (go_at_call 8; (with_reducible refine (arm_dw DA.out (Nat.le_refl _) wn kk).mono ?_); rintro e w5 ⟨rfl, h1⟩; have DB := Aside0.mk h1; clear h1))
      clear DA hc8
      obtain ⟨q, rfl⟩ : ∃ q : Nat, wn = q := ⟨wn.toNat, by omega⟩
      obtain ⟨kq, rfl⟩ : ∃ kq : Nat, kk = kq := ⟨kk.toNat, by omega⟩
      have DB : Aside0 (DW w w.heap.size p g (M z z z true q kq false) w5) := ⟨by have := DB.out; rwa [show ((M z z z false (-((3 : Nat) : Int)) 0 false).arm 99 1) = M z z z true 99 1 false from rfl, arm_M z q kq (by omega) (by omega)] at this⟩
      have hzz : z.size = 32 := hO
      have hsp : ∀ l : Int, l ≠ 0 → (M z z z true l kq false).write 0 old = (true, M z z z true (l - 1) kq false) := by
        intro l hl
        have := write_put (D := M z z z true l kq false) (i := 0) (data := old) rfl (by show 0 < 3; omega) (by omega) (.inr hl)
        rw [← HO2.out] at this
        exact this
      have SP := Aside0.mk hsp
      clear hsp
      go_loopw [52] (fun v wr => ∃ j : Nat, v = .int .i64 (j : Int) ∧ j ≤ q ∧ Aside0 (DW w w.heap.size p g (M z z z true ((q : Int) - j) kq false) wr)) (fun v _ => q - (intOf v).toNat)
      case atStart => exact ⟨0, rfl, Nat.zero_le _, ⟨by simpa using DB.out⟩⟩
      case round =>
        clear DB
        obtain ⟨j, rfl, hj, DB⟩ := hrel
        by_cases hjq : j < q
        · have hok : (M z z z true ((q : Int) - j) kq false).Ok := M_ok hzz hzz hzz (by omega) (by omega) (by omega) (by omega)
          have hne : (q : Int) - j ≠ 0 := by omega
          go_wp2_with (go_at_call 9; refine (wr_call DB.out (Nat.le_refl _) hok (by omega) (by omega) (by omega) (SP.out _ hne)).mono ?_; rintro e w6 ⟨rfl, h1⟩; have DB := Aside0.mk h1; clear h1)
          go_roundw
          case rel => exact ⟨j + 1, by go_num, by omega, ⟨by have := DB.out; rwa [show (q : Int) - j - 1 = (q : Int) - (j + 1 : Nat) by omega] at this⟩⟩
          case measure => simp [intOf]; omega
        · obtain rfl : j = q := by omega
          have DB : Aside0 (DW w w.heap.size p g (M z z z true 0 kq false) wr) := ⟨by have := DB.out; rwa [show (j : Int) - j = 0 by omega] at this⟩
          clear SP hk hn hc
          generalize hfr : (⟨#[49, 50, 51, 52, 53, 54, 55, 56]⟩ : ByteArray) = fr
          have hfs : fr.size = 8 := by rw [← hfr]; rfl
          have hfb : (wholeS fr).extract 0 8 = fr := by rw [← hfr]; exact fresh_back
          have hF := wholeS_size fr (by omega)
          clear hfr
          obtain ⟨mm, hmm⟩ : ∃ mm : Nat, mm = min kq 8 := ⟨_, rfl⟩
          have hm8 : min (kq : Int) 8 = (mm : Int) := by omega
          have hm1 : (mm : Int) ≤ 8 := by omega
          have hm2 : mm ≤ 8 := by omega
          have hTs : ((wholeS fr).extract 0 kq ++ z.extract kq 32).size = 32 := by rw [HO2.out]; exact torn_size fr old kq hfs hos (by omega)
          have hTa : ((wholeS fr).extract 0 kq ++ z.extract kq 32).extract 0 mm = fr.extract 0 mm := by rw [HO2.out]; exact torn_a fr old kq mm hfs (by omega) (by omega) (by omega)
          have hTb : ((wholeS fr).extract 0 kq ++ z.extract kq 32).extract mm 8 = old.extract mm 8 := by rw [HO2.out]; exact torn_b fr old kq mm hfs hos hmm (by omega)
          have hr3 : (M z z z true 0 kq false).write 3 fr = (false, M z z z true 0 kq false) := write_not (.inr (by show (3 : Int) ≤ 3; omega))
          have hr1 : (M z z z true 0 kq false).write 1 fr = (false, M z ((wholeS fr).extract 0 kq ++ z.extract kq 32) z false 0 kq true) := write_torn (D := M z z z true 0 kq false) (i := 1) rfl (by show 1 < 3; omega) (by omega) rfl rfl
          generalize (wholeS fr).extract 0 kq ++ z.extract kq 32 = T at hTs hTa hTb hr1
          have hr2 : (M z T z false 0 kq true).write 2 fr = (false, M z T z false 0 kq true) := write_not (.inl rfl)
          have hro : (M z T z false 0 kq true).read 1 = (T, true) := rfl
          have okB : (M z z z true 0 kq false).Ok := M_ok hzz hzz hzz (by omega) (by omega) (by omega) (by omega)
          have okT : (M z T z false 0 kq true).Ok := M_ok hzz hTs hzz (by omega) (by omega) (by omega) (by omega)
          have HTA := Aside0.mk hTa
          have HTB := Aside0.mk hTb
          have HM8 := Aside0.mk hmm
          clear hmm HO2
          go_wp2_with (first
            | (go_at_call 9; (with_reducible refine (wr_call DB.out (Nat.le_refl _) okB (by omega) (by omega) (by omega) hr3).mono ?_); rintro e w7 ⟨rfl, h1⟩; have DC := Aside0.mk h1; clear h1 DB)
            | (go_at_call 11; (with_reducible refine (dn_dw (x := false) DC.out (Nat.le_refl _) rfl).mono ?_); rintro e w8 ⟨rfl, h1⟩; have DD := Aside0.mk h1; clear h1 DC)
            | (go_at_call 9; (with_reducible refine (wr_call DD.out (Nat.le_refl _) okB (by omega) (by omega) (by omega) hr1).mono ?_); rintro e w9 ⟨rfl, h1⟩; have DE := Aside0.mk h1; clear h1 DD)
            | (go_at_call 11; (with_reducible refine (dn_dw (x := true) DE.out (Nat.le_refl _) rfl).mono ?_); rintro e w10 ⟨rfl, h1⟩; have DF := Aside0.mk h1; clear h1 DE)
            | (go_at_call 9; (with_reducible refine (wr_call DF.out (Nat.le_refl _) okT (by omega) (by omega) (by omega) hr2).mono ?_); rintro e w11 ⟨rfl, h1⟩; have DG := Aside0.mk h1; clear h1 DF)
            | (go_at_call 10; (with_reducible refine (rd_dw DG.out (Nat.le_refl _) okT hro).mono ?_); rintro e w12 ⟨rfl, h1⟩; have DH := Aside0.mk h1; clear h1 DG))
          have hTa := HTA.out
          have hTb := HTB.out
          go_quiet (fail)
          clear hTa hTb HTA HTB hm1 hm2 hm8 HM8 okB hr1 hr2 hr3 hro
          have DH := Aside0.mk (DH.out.step (Nat.le_refl _) (Drawn0.below ⟨⟨nq, rfl⟩⟩))
          go_wp2_with (first
            | (go_at_call 14; (with_reducible refine (rev_dw DH.out (Nat.le_refl _)).mono ?_); rintro e w13 ⟨rfl, h1⟩; have DI := Aside0.mk h1; clear h1 DH)
            | (go_at_call 13; (with_reducible refine (within_call m 1 9 _ (by omega) (by omega) (by omega)).mono ?_); rintro e w14 ⟨mr, rfl, r0, r1, d1⟩; have DI := Aside0.mk (DI.out.step (Nat.le_refl _) d1.below); clear d1))
          obtain ⟨q3, rfl⟩ : ∃ q3 : Nat, mr = q3 := ⟨mr.toNat, by omega⟩
          obtain ⟨F, hFe⟩ : ∃ F, F = wholeS fr := ⟨_, rfl⟩
          rw [← hFe] at hF hfb
          have hsf : ∀ (y : ByteArray) (l : Int), (M z y z false l kq false).write 1 fr = (true, M z F z false (l - 1) kq false) := by
            intro y l
            have := write_put (D := M z y z false l kq false) (i := 1) (data := fr) rfl (by show 1 < 3; omega) (by omega) (.inl rfl)
            rw [← hFe] at this
            exact this
          have SF := Aside0.mk hsf
          clear hsf hFe okT
          go_loopw [119] (fun v wr => ∃ (i : Nat) (y : ByteArray), v = .int .i64 (i : Int) ∧ i ≤ q3 ∧ y.size = 32 ∧ (0 < i → y = F) ∧ Aside0 (DW w w.heap.size p g (M z y z false (-(i : Int)) kq false) wr)) (fun v _ => q3 - (intOf v).toNat)
          case atStart => exact ⟨0, T, rfl, Nat.zero_le _, hTs, by omega, ⟨DI.out⟩⟩
          case round =>
            clear DI
            obtain ⟨i, y, rfl, hi, hy, py, DJ⟩ := hrel
            by_cases hlt : i < q3
            · have hok : (M z y z false (-(i : Int)) kq false).Ok := M_ok hzz hy hzz (by omega) (by omega) (by omega) (by omega)
              go_wp2_with (go_at_call 9; refine (wr_call DJ.out (Nat.le_refl _) hok (by omega) (by omega) (by omega) (SF.out y _)).mono ?_; rintro e w15 ⟨rfl, h1⟩; have DK := Aside0.mk h1; clear h1)
              go_roundw
              case rel => exact ⟨i + 1, F, by go_num, by omega, hF, fun _ => rfl, ⟨by have := DK.out; rwa [show -((i : Int)) - 1 = -((i + 1 : Nat) : Int) by omega] at this⟩⟩
              case measure => simp [intOf]; omega
            · obtain rfl : i = q3 := by omega
              obtain rfl := py (by omega)
              have hok : (M z y z false (-(i : Int)) kq false).Ok := M_ok hzz hy hzz (by omega) (by omega) (by omega) (by omega)
              have hrr : (M z y z false (-(i : Int)) kq false).read 1 = (y, true) := rfl
              go_wp2_with (first
                | (go_at_call 10; (with_reducible refine (rd_dw DJ.out (Nat.le_refl _) hok hrr).mono ?_); rintro e w16 ⟨rfl, h1⟩; have DL := Aside0.mk h1; clear h1)
                | (go_at_call 11; (with_reducible refine (dn_dw (x := false) DL.out (Nat.le_refl _) rfl).mono ?_); rintro e w17 ⟨rfl, h1⟩; have DN := Aside0.mk h1; clear h1)
                | (go_at_call 3; (with_reducible refine (runs_dw DN.out (Nat.le_refl _)).mono ?_); rintro e w18 ⟨rfl, h1⟩; have DO_ := Aside0.mk h1; clear h1))
              go_ret
              exact ⟨rfl, DO_.out.below⟩
end Go.Proofs.Yticpeniaplhpmaa.Given
