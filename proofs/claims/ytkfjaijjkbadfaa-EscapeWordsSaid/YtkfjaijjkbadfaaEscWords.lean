/- Words joined by blanks are parted again; a word that was put has none; twelve bytes, no more. For every input. No condition. -/
import Derived.Test.YtkfjaijjkbadfaaEscTells
import Derived.Test.YtkfjaijjkbadfaaEscJoin
import Derived.Test.YtkfjaijjkbadfaaStrs
import Derived.StillTailTactics
import Derived.Maps.AppendAt
set_option linter.unusedVariables false
set_option linter.unusedSimpArgs false
namespace Go.Proofs.Ytkfjaijjkbadfaa.Given
open Go.RowKit Go.Proofs.YtkfjaijjkbadfaaW.PrintWords Go.Proofs.YtkfjaijjkbadfaaW.PrintMore Go.Proofs.Ytkfjaijjkbadfaa.RF
attribute [local go_sem] Oper.semAt_some
theorem pw_put {p c : ByteArray} (hp : bytesOf p = escL (bytesOf c)) (sz : c.size ≤ 8) : Pw p := by
  refine ⟨fun y hy => ?_, ?_⟩
  · rw [hp] at hy
    exact (escL_mem _ y hy).1
  · have h1 := congrArg List.length hp
    rw [bytesOf_length] at h1
    have h2 := escL_len (bytesOf c)
    rw [bytesOf_length] at h2
    omega
theorem info9 : (Try.prog.info? 9).map (fun i => (i.zero, i.size, i.bytes)) = some (some (.string ⟨#[]⟩), 1, 16) := by kernel_rfl
theorem own_step {W W' : World} {B e size n : Nat} {v : Value} {xs : List Value} (h : W.ownsRow B e size v n xs) (hb : Below W.heap.size W W') : W'.ownsRow B e size v n xs := by
  refine ⟨h.1, ?_⟩
  rcases h.2 with hn | ⟨g, cap, cur, rfl, hbg, hgg, rest⟩
  · exact .inl hn
  · exact .inr ⟨g, cap, cur, rfl, hbg, (hb.block g (Array.getElem?_eq_some_iff.1 hgg).1).trans hgg, rest⟩
/-- The own row, boxed, and what else is carried. -/
def OwnW (w : World) (B : Nat) (v : Value) (ws : List ByteArray) (W : World) : Prop := Boxed W B 4 (.bool false) ∧ Boxed W (B + 1) 26 v ∧ W.ownsRow B 9 1 v ws.length (ws.map Value.string) ∧ Below B w W
theorem OwnW.step {w : World} {B : Nat} {v : Value} {ws : List ByteArray} {W W' : World} (h : OwnW w B v ws W) (hB : B ≤ w.heap.size) (b : Below W.heap.size W W') : OwnW w B v ws W' :=
  ⟨boxed_below h.1 b h.1.lt, boxed_below h.2.1 b h.2.1.lt, own_step h.2.2.1 b, h.2.2.2.trans (b.mono (Nat.le_trans hB h.2.2.2.size))⟩
theorem OwnW.app {w : World} {B : Nat} {v v' : Value} {ws : List ByteArray} {x : ByteArray} {W w1 : World} {tmp : Obj} (h : OwnW w B v ws W) (hB : B ≤ w.heap.size) (hown' : w1.ownsRow B 9 1 v' (ws.length + 1) (ws.map Value.string ++ [.string x])) (hgrow : (W.alloc tmp).grownBy w1 v.ownBlock) :
    Boxed w1 (B + 1) 26 v ∧ OwnW w B v' (ws ++ [x]) (w1.setCell ⟨B + 1, 0, none⟩ v') := by
  obtain ⟨h1, h2, h3, h4⟩ := h
  have hn : B ≤ W.heap.size := Nat.le_trans hB h4.size
  obtain ⟨b1, b2, b3, _, b5⟩ := Boxed.appended h2 (by decide) h3 hn (by omega) hown' hgrow
  refine ⟨b1, ?_, b2, by simpa using b3, h4.trans b5⟩
  exact (((h1.alloc tmp).kept hgrow (h1.not_row (by decide) h3))).other (by omega) _
/-- The row, whole: behind the first loop. -/
def OwnS (w : World) (B g cap : Nat) (ws : List ByteArray) (W : World) : Prop :=
  Boxed W B 4 (.bool false) ∧ Boxed W (B + 1) 26 (.slice (some ⟨g, 0, none⟩) ws.length cap) ∧ (∃ cur, W.heap[g]? = some (.cells cur 9 (0, 0)) ∧ ∀ i, i < ws.length → cur[i]? = some (.string (ws.getD i ⟨#[]⟩))) ∧ Below B w W
theorem OwnS.lt {w : World} {B g cap : Nat} {ws : List ByteArray} {W : World} (h : OwnS w B g cap ws W) : B + 1 < W.heap.size ∧ g < W.heap.size := by
  obtain ⟨_, h2, ⟨cur, h3, _⟩, _⟩ := h
  exact ⟨h2.lt, (Array.getElem?_eq_some_iff.1 h3).1⟩
theorem OwnS.step {w : World} {B g cap : Nat} {ws : List ByteArray} {W W' : World} (h : OwnS w B g cap ws W) (hB : B ≤ w.heap.size) (b : Below W.heap.size W W') : OwnS w B g cap ws W' := by
  obtain ⟨h1, h2, ⟨cur, h3, h4⟩, h5⟩ := h
  exact ⟨boxed_below h1 b h1.lt, boxed_below h2 b h2.lt, ⟨cur, (b.block g (Array.getElem?_eq_some_iff.1 h3).1).trans h3, h4⟩, h5.trans (b.mono (Nat.le_trans hB h5.size))⟩
theorem OwnS.cell {w : World} {B g cap : Nat} {ws : List ByteArray} {W : World} (h : OwnS w B g cap ws W) {i : Nat} (hi : i < ws.length) : W.cell? ⟨g, i, none⟩ = some (.string (ws.getD i ⟨#[]⟩)) := by
  obtain ⟨_, _, ⟨cur, h3, h4⟩, _⟩ := h
  have := h4 i hi
  simp [World.cell?, h3, this]
theorem OwnS.turn {own : Nat → Prop} {N : Nat} {w : World} {B g cap : Nat} {ws : List ByteArray} {X Y : World} (ht : Turn own N X Y) (h : OwnS w B g cap ws X) (hB : B ≤ w.heap.size) (n1 : ¬ own B) (n2 : ¬ own (B + 1)) (n3 : ¬ own g) (l1 : B + 1 < N) (l2 : g < N) (hown : ∀ r, own r → B ≤ r) : OwnS w B g cap ws Y := by
  obtain ⟨h1, h2, ⟨cur, h3, h4⟩, h5⟩ := h
  exact ⟨ht.boxed h1 n1 (by omega), ht.boxed h2 n2 l1, ⟨cur, ht.block h3 n3 l2, h4⟩, ht.below h5 hB hown (by omega)⟩
theorem OwnS.set {w : World} {B g cap : Nat} {ws : List ByteArray} {W : World} {b : Nat} {u : Value} {v : Value} (h : OwnS w B g cap ws W) (hb : Boxed W b 3 v) (hB : B ≤ b) : OwnS w B g cap ws (W.setCell ⟨b, 0, none⟩ u) := by
  obtain ⟨h1, h2, ⟨cur, h3, h4⟩, h5⟩ := h
  have hb' : W.heap[b]? = some (.cells #[v] 3 (0, 0)) := hb
  have n1 : B ≠ b := by rintro rfl; have h1' : W.heap[B]? = some (.cells #[.bool false] 4 (0, 0)) := h1; rw [hb'] at h1'; cases h1'
  have n2 : B + 1 ≠ b := by
    intro e
    have h2' : W.heap[B + 1]? = some (.cells #[.slice (some ⟨g, 0, none⟩) ws.length cap] 26 (0, 0)) := h2
    rw [e, hb'] at h2'
    cases h2'
  have n3 : g ≠ b := by rintro rfl; rw [hb'] at h3; cases h3
  exact ⟨h1.other n1 _, h2.other n2 _, ⟨cur, (Below.heap_setCell _ _ _ _ n3).trans h3, h4⟩, h5.setCell (p := ⟨b, 0, none⟩) hB _⟩
theorem OwnW.whole {w : World} {B : Nat} {v : Value} {ws : List ByteArray} {W : World} (h : OwnW w B v ws W) (hne : ws ≠ []) : ∃ g cap, v = .slice (some ⟨g, 0, none⟩) ws.length cap ∧ OwnS w B g cap ws W := by
  obtain ⟨h1, h2, h3, h4⟩ := h
  rcases h3.2 with ⟨_, h0⟩ | ⟨g, cap, cur, rfl, _, hg, _, _, _, ht⟩
  · exact absurd (List.eq_nil_of_length_eq_zero h0) hne
  · refine ⟨g, cap, rfl, h1, h2, ⟨cur, hg, fun i hi => ?_⟩, h4⟩
    have e : (ws.map Value.string)[i]? = some (.string (ws.getD i ⟨#[]⟩)) := by rw [List.getElem?_map, List.getD_eq_getElem?_getD, List.getElem?_eq_getElem hi]; rfl
    rw [← ht, List.getElem?_take] at e
    split at e
    · simpa using e
    · cases e
theorem OwnW.empty {w : World} {B : Nat} {v : Value} {W : World} (h : OwnW w B v [] W) (hB : B ≤ w.heap.size) :
    OwnS w B W.heap.size 1 [⟨#[]⟩] ((W.setCell ⟨B + 1, 0, none⟩ (.slice (some ⟨W.heap.size, 0, none⟩) 1 1)).alloc (.cells #[.string ⟨#[]⟩] 9)) := by
  obtain ⟨h1, h2, _, h4⟩ := h
  have l2 := h2.lt
  refine ⟨(h1.other (by omega) _).alloc _, (h2.set _).alloc _, ⟨#[.string ⟨#[]⟩], ?_, fun i hi => ?_⟩, (h4.setCell (p := ⟨B + 1, 0, none⟩) (by simp) _).alloc (by have := h4.size; simp; omega) _⟩
  · have := World.alloc_heap_new (W.setCell ⟨B + 1, 0, none⟩ (.slice (some ⟨W.heap.size, 0, none⟩) 1 1)) (.cells #[.string ⟨#[]⟩] 9)
    rwa [World.size_setCell] at this
  · obtain rfl : i = 0 := by simp at hi; exact hi
    rfl
/-- What is carried to the end. -/
def FinW (w : World) (B g cap bi D : Nat) (ws : List ByteArray) (W : World) : Prop := Boxed W bi 3 (.int .i64 (ws.length : Int)) ∧ OwnS w B g cap ws W ∧ W.heap[D]? = some (.deferred (some []))
theorem FinW.step {w : World} {B g cap bi D : Nat} {ws : List ByteArray} {W W' : World} (h : FinW w B g cap bi D ws W) (hB : B ≤ w.heap.size) (b : Below W.heap.size W W') : FinW w B g cap bi D ws W' :=
  ⟨boxed_below h.1 b h.1.lt, h.2.1.step hB b, (b.block _ (Array.getElem?_eq_some_iff.1 h.2.2).1).trans h.2.2⟩
theorem FinW.cells {w : World} {B g cap bi D : Nat} {ws : List ByteArray} {W : World} (h : FinW w B g cap bi D ws W) :
    W.cell? ⟨bi, 0, none⟩ = some (.int .i64 (ws.length : Int)) ∧ W.cell? ⟨B + 1, 0, none⟩ = some (.slice (some ⟨g, 0, none⟩) ws.length cap) ∧ W.cell? ⟨B, 0, none⟩ = some (.bool false) ∧ W.frozen? ⟨B, 0, none⟩ = false :=
  ⟨h.1.cell, h.2.1.2.1.cell, h.2.1.1.cell, h.2.1.1.frozen⟩
theorem wordW : ∀ k, k < 16 → B.wordB (List.replicate k 119) = decide (1 ≤ k ∧ k ≤ 12) := by decide
theorem word_ab : Q.escape_Word.f 20 ⟨#[97, 32, 98]⟩ = some false := by kernel_rfl
theorem word_sl : Q.escape_Word.f 20 ⟨#[97, 92, 98]⟩ = some false := by kernel_rfl
theorem word_lf : Q.escape_Word.f 20 ⟨#[97, 10]⟩ = some false := by kernel_rfl
set_option maxHeartbeats 8000000 in
set_option maxRecDepth 100000 in
theorem words_walk (a0 : Option Addr) (len cap : Nat) (ss : List ByteArray) (n : Int) (w : World) (h0 : StrRow w a0 len cap ss) (hn : (Lit.int .i64 n).wf = true) :
    Calls Try.prog 6 #[.slice a0 len cap, .int .i64 n] w fun e w' => e = .returned (.bool true) ∧ Below w.heap.size w w' := by
  have hcell : len ≤ 9223372036854775807 ∧ ∀ k, k < len → ∃ x : Addr, a0 = some x ∧ x.block < w.heap.size ∧ w.cell? (x.add k) = some (.string (ss.getD k ByteArray.empty)) ∧ (ss.getD k ByteArray.empty).size ≤ 9223372036854775807 := by
    rcases h0 with ⟨_, h0, _, _⟩ | ⟨x, rfl, h1, h2, h3, h4, h5⟩
    · exact ⟨by omega, fun k hk => by omega⟩
    · refine ⟨by unfold maxLen at h2; omega, fun k hk => ?_⟩
      have hc := h4 k (by omega)
      have hl := cell_lt hc
      rw [add_block] at hl
      refine ⟨x, rfl, hl, hc, ?_⟩
      have hk2 : k < ss.length := by omega
      rw [List.getD_eq_getElem?_getD, List.getElem?_eq_getElem hk2]
      have := h5 _ (List.getElem_mem hk2)
      unfold maxLen at this
      simpa using this
  obtain ⟨hlen, hcell⟩ := hcell
  have HC := Aside0.mk hcell
  clear hcell h0
  refine (callsIn_wide (n := 5)).1 ?_
  refine callsIn_of_wp_marks Try.func6 rfl trivial ?_ rfl
  simp only [Try.ntmps6, List.size_toArray, List.length_cons, List.length_nil, Nat.reduceAdd, Nat.reduceSub, Array.replicate_succ, Array.replicate_zero, List.push_toArray, List.append_toArray, List.nil_append, List.cons_append]
  refine wpIn_wide.2 ?_
  obtain ⟨i0, hi, hz0, hz1, hz2⟩ := info_parts info9
  go_wp2
  obtain ⟨Bz, hB⟩ : ∃ B, w.heap.size = B := ⟨_, rfl⟩
  have z0 := (Boxed.new w 4 (.bool false)).alloc (.cells #[.slice none 0 0] 26)
  have z1 := Boxed.new (w.alloc (.cells #[.bool false] 4)) 26 (.slice none 0 0)
  have zb : Below w.heap.size w ((w.alloc (.cells #[.bool false] 4)).alloc (.cells #[.slice none 0 0] 26)) := ((Below.refl _ w).alloc (Nat.le_refl _) _).alloc (by simp) _
  rw [World.size_alloc] at z1
  have O0 : OwnW w Bz (.slice none 0 0) [] ((w.alloc (.cells #[.bool false] 4)).alloc (.cells #[.slice none 0 0] 26)) := by
    rw [hB] at z0 z1 zb
    exact ⟨z0, z1, World.ownsRow_nil _ _ _ _, zb⟩
  clear z0 z1 zb
  rw [hB]
  have hbb : Bz ≤ w.heap.size := Nat.le_of_eq hB.symm
  have hbc : w.heap.size ≤ Bz := Nat.le_of_eq hB
  have HBW := Aside0.mk hB
  have O0 := Aside0.mk O0
  clear hB
  generalize (w.alloc (.cells #[.bool false] 4)).alloc (.cells #[.slice none 0 0] 26) = W0 at O0 ⊢
  go_loopw [6, 7, 8] (fun v6 v7 v8 wr => ∃ (k : Nat) (ws : List ByteArray) (v : Value), v7 = .int .i64 (k : Int) ∧ k ≤ len ∧ k ≤ 6 ∧ ws.length = k ∧ v6 = .string (joinB ws) ∧ Aside0 (∀ x ∈ ws, Pw x) ∧ Aside0 (OwnW w Bz v ws wr)) (fun _ i _ _ => 6 - (intOf i).toNat)
  case atStart => exact ⟨0, [], _, rfl, Nat.zero_le _, Nat.zero_le _, rfl, rfl, ⟨by simp⟩, O0⟩
  case round =>
    clear O0
    obtain ⟨k, ws, v, rfl, hk, hk6, hwl, rfl, HP, HO⟩ := hrel
    by_cases g : k < len ∧ k < 6
    · obtain ⟨g1, g2⟩ := g
      obtain ⟨x, rfl, hx, hc, hs⟩ := HC.out k g1
      generalize ss.getD k ByteArray.empty = s at hc hs
      have hc' : wr.cell? (x.add k) = some (.string s) := (HO.out.2.2.2.cell (p := x.add k) (by rw [add_block]; omega)).trans hc
      have hxw : (x.add k).block < wr.heap.size := by rw [add_block]; exact Nat.lt_of_lt_of_le hx HO.out.2.2.2.size
      have hdec : decide ((k : Int) < 6) = true := decide_eq_true (by omega)
      obtain ⟨m, hm⟩ : ∃ m : Nat, min (s.size : Int) 8 = m := ⟨min s.size 8, by omega⟩
      have hms : m ≤ s.size ∧ m ≤ 8 := by omega
      clear hc
      go_wp2
      go_still_tail 11, (by kernel_rfl)
      change wpList _ _ _ _ _ wr.drew
      have sz : (s.extract 0 m).size ≤ 8 := by rw [ByteArray.size_extract]; omega
      generalize s.extract 0 m = c at sz ⊢
      clear hm hms hs hc' hxw hx hdec
      have HO' := Aside0.mk (show OwnW w Bz v ws wr.drew from HO.out.step hbb (Drawn0.below ⟨⟨1, rfl⟩⟩))
      clear HO
      have hjl : (joinB ws).size ≤ 6 * 17 := by
        have h1 := joinB_len 16 ws (fun z hz => (HP.out z hz).2)
        have h2 : ws.length * (16 + 1) ≤ 6 * 17 := Nat.mul_le_mul (by omega) (by omega)
        omega
      have hkc : ws = [] ∨ (ws ≠ [] ∧ 0 < k) := by
        cases ws with
        | nil => exact .inl rfl
        | cons _ _ => exact .inr ⟨by simp, by simp at hwl; omega⟩
      rcases hkc with rfl | ⟨hne, hgt⟩
      · simp only [List.length_nil] at hwl
        subst hwl
        go_wp2_with (first
          | (go_at_call 10; refine (put_call c _ (by omega)).mono ?_; rintro e wp ⟨p, rfl, hp, bp⟩; have O1 := Aside0.mk (HO'.out.step hbb bp); have c1 := O1.out.2.1.cell; have HPW := Aside0.mk (pw_put hp sz); have hp16 := HPW.out.2; have hown := O1.out.2.2.1; have hbs : Bz ≤ wp.heap.size := Nat.le_trans hbb O1.out.2.2.2.size; clear bp HO' hp)
          | (at_builtin; refine wpList_append_own _ rfl _ _ 26 rfl Bz 9 i0 (.string ⟨#[]⟩) 1 16 Try.underlying26 hi hz0 hz1 hz2 rfl (by decide) v 0 _ rfl (hown.alloc _) ⟨wp.heap.size, 0, none⟩ 1 1 [.string p] rfl rfl (cell_one_new _ _ _) (by intro u hu; simp at hu; subst hu; rfl) (by unfold maxLen; omega) (by omega) (by simp; omega) ?_; intro v' w1 hown' hgrow _; obtain ⟨g', cap', rfl⟩ := ownsRow_succ hown'; have HA := Aside0.mk (O1.out.app hbb hown' hgrow); have c2 := HA.out.1.cell; have f2 := HA.out.1.frozen; clear hown' hgrow))
        go_roundw
        case rel => exact ⟨1, [p], _, rfl, by omega, by omega, rfl, congrArg Value.string (by apply bytes_inj; simp [joinB, bytesOf, ByteArray.data_append]), ⟨by intro z hz; rw [List.mem_singleton] at hz; subst hz; exact HPW.out⟩, ⟨HA.out.2⟩⟩
        case measure => simp [intOf]
      · subst hwl
        go_wp2_with (first
          | (go_at_call 10; refine (put_call c _ (by omega)).mono ?_; rintro e wp ⟨p, rfl, hp, bp⟩; have O1 := Aside0.mk (HO'.out.step hbb bp); have c1 := O1.out.2.1.cell; have HPW := Aside0.mk (pw_put hp sz); have hp16 := HPW.out.2; have hown := O1.out.2.2.1; have hbs : Bz ≤ wp.heap.size := Nat.le_trans hbb O1.out.2.2.2.size; clear bp HO' hp)
          | (at_builtin; refine wpList_append_own _ rfl _ _ 26 rfl Bz 9 i0 (.string ⟨#[]⟩) 1 16 Try.underlying26 hi hz0 hz1 hz2 rfl (by decide) v ws.length _ rfl (hown.alloc _) ⟨wp.heap.size, 0, none⟩ 1 1 [.string p] rfl rfl (cell_one_new _ _ _) (by intro u hu; simp at hu; subst hu; rfl) (by unfold maxLen; omega) (by omega) (by simp; omega) ?_; intro v' w1 hown' hgrow _; obtain ⟨g', cap', rfl⟩ := ownsRow_succ hown'; have HA := Aside0.mk (O1.out.app hbb hown' hgrow); have c2 := HA.out.1.cell; have f2 := HA.out.1.frozen; clear hown' hgrow))
        go_roundw
        case rel => exact ⟨ws.length + 1, ws ++ [p], _, by go_num, by omega, by omega, by simp, by rw [joinB_snoc _ _ hne], ⟨by intro z hz; rcases List.mem_append.1 hz with hz | hz; exact HP.out z hz; rw [List.mem_singleton] at hz; subst hz; exact HPW.out⟩, ⟨HA.out.2⟩⟩
        case measure => simp [intOf]; omega
    · have hexit : (k < len ∧ k = 6 ∧ ws ≠ []) ∨ (k = len ∧ ws ≠ []) ∨ (k = len ∧ ws = []) := by
        by_cases hw : ws = []
        · refine .inr (.inr ⟨?_, hw⟩)
          rw [hw, List.length_nil] at hwl
          omega
        · rcases (by omega : (k < len ∧ k = 6) ∨ k = len) with h | h
          · exact .inl ⟨h.1, h.2, hw⟩
          · exact .inr (.inl ⟨h, hw⟩)
      clear g
      have hjl : (joinB ws).size ≤ 6 * 17 := by
        have h1 := joinB_len 16 ws (fun z hz => (HP.out z hz).2)
        have h2 : ws.length * (16 + 1) ≤ 6 * 17 := Nat.mul_le_mul (by omega) (by omega)
        omega
      have hbs : Bz ≤ wr.heap.size := Nat.le_trans hbb HO.out.2.2.2.size
      rcases hexit with ⟨x1, rfl, hne⟩ | ⟨rfl, hne⟩ | ⟨rfl, rfl⟩
      all_goals
        first
          | (have x1_ := x1
             obtain ⟨g, cap', rfl, hS⟩ := HO.out.whole hne
             have WJ := Aside0.mk (words_join ws hne fun z hz => (HP.out z hz).1)
             have hdec : decide (((6 : Nat) : Int) < 6) = false := by decide
             have hpos : 0 < ws.length := by omega
             have c1 := hS.2.1.cell
             have SA := Aside0.mk hS
             have hwl6 : ws.length ≤ 7 := by omega
             clear hS HO HP hne
             generalize joinB ws = s at WJ hjl ⊢
             go_wp2_with (first
               | (go_at_call 7; (with_reducible refine (Q.escape_Word.calls 20 _ true _ word_ok).mono ?_); rintro e wv ⟨rfl, dv⟩; have S1 := Aside0.mk (SA.out.step hbb dv.below); clear dv SA)
               | (go_at_call 8; (with_reducible refine (words_make _ _).mono ?_); rintro e w' ⟨rfl, rfl⟩))
             have ALL : ∃ (g cap : Nat) (ws : List ByteArray), Aside0 (OwnS w Bz g cap ws wv) ∧ Aside0 (wordsL s = ws) ∧ 1 ≤ ws.length ∧ ws.length ≤ 7 := ⟨_, _, _, S1, WJ, hpos, hwl6⟩
             clear S1 WJ hpos hwl6 hwl c1)
          | (have hne_ := hne
             obtain ⟨g, cap', rfl, hS⟩ := HO.out.whole hne
             have WJ := Aside0.mk (words_join ws hne fun z hz => (HP.out z hz).1)
             have hpos : 0 < ws.length := List.length_pos_iff.2 hne
             have c1 := hS.2.1.cell
             have SA := Aside0.mk hS
             have hwl6 : ws.length ≤ 7 := by omega
             clear hS HO HP hne
             generalize joinB ws = s at WJ hjl ⊢
             go_wp2_with (first
               | (go_at_call 7; (with_reducible refine (Q.escape_Word.calls 20 _ true _ word_ok).mono ?_); rintro e wv ⟨rfl, dv⟩; have S1 := Aside0.mk (SA.out.step hbb dv.below); clear dv SA)
               | (go_at_call 8; (with_reducible refine (words_make _ _).mono ?_); rintro e w' ⟨rfl, rfl⟩))
             have ALL : ∃ (g cap : Nat) (ws : List ByteArray), Aside0 (OwnS w Bz g cap ws wv) ∧ Aside0 (wordsL s = ws) ∧ 1 ≤ ws.length ∧ ws.length ≤ 7 := ⟨_, _, _, S1, WJ, hpos, hwl6⟩
             clear S1 WJ hpos hwl6 hwl c1)
          | (skip
             have SA := Aside0.mk (HO.out.empty hbb)
             have c1 := HO.out.2.1.cell
             have f1 := HO.out.2.1.frozen
             have l1 := HO.out.2.1.lt
             obtain ⟨n0, hn0⟩ : ∃ n0 cap0, v = .slice n0 0 cap0 := by
               rcases HO.out.2.2.1.2 with ⟨h, _⟩ | ⟨g, cap, cur, h, _⟩
               · exact ⟨_, _, h⟩
               · exact ⟨_, _, h⟩
             obtain ⟨cap0, rfl⟩ := hn0
             have WJ : Aside0 (wordsL (joinB []) = [⟨#[]⟩]) := ⟨words_nil⟩
             clear HO HP hwl
             generalize joinB [] = s at WJ hjl ⊢
             go_wp2_with (first
               | (go_at_call 7; (with_reducible refine (Q.escape_Word.calls 20 _ true _ word_ok).mono ?_); rintro e wv ⟨rfl, dv⟩; have S1 := Aside0.mk (SA.out.step hbb dv.below); clear dv SA)
               | (go_at_call 8; (with_reducible refine (words_make _ _).mono ?_); rintro e w' ⟨rfl, rfl⟩))
             have ALL : ∃ (g cap : Nat) (ws : List ByteArray), Aside0 (OwnS w Bz g cap ws wv) ∧ Aside0 (wordsL s = ws) ∧ 1 ≤ ws.length ∧ ws.length ≤ 7 := ⟨_, _, _, S1, WJ, by simp, by simp⟩
             clear S1 WJ c1 f1 l1)
      all_goals
        obtain ⟨g, cap', ws2, S1, WJ, l1_, l2_⟩ := ALL
        have q4 := (Boxed.new wv 3 (.int .i64 0)).alloc (.cells #[.string s] 9)
        have qw := Boxed.new (wv.alloc (.cells #[.int .i64 0] 3)) 9 (.string s)
        have qb : Below wv.heap.size wv ((wv.alloc (.cells #[.int .i64 0] 3)).alloc (.cells #[.string s] 9)) := ((Below.refl _ wv).alloc (Nat.le_refl _) _).alloc (by simp) _
        have qc := S1.out.step hbb qb
        have qs : ((wv.alloc (.cells #[.int .i64 0] 3)).alloc (.cells #[.string s] 9)).heap.size = wv.heap.size + 2 := by simp
        obtain ⟨m1, m2⟩ := S1.out.lt
        rw [World.size_alloc] at qw
        clear qb S1
        generalize (wv.alloc (.cells #[.int .i64 0] 3)).alloc (.cells #[.string s] 9) = W2 at q4 qw qc qs ⊢
        generalize wv.heap.size = m at q4 qw qs m1 m2 ⊢
        have qa : W2.heap.size ≤ m + 2 := Nat.le_of_eq qs
        have qd : m + 2 ≤ W2.heap.size := Nat.le_of_eq qs.symm
        clear qs
        have HY := words_yield 4 (by omega) (m + 1) s (by omega) W2 qw
        rw [WJ.out] at HY
        clear qw WJ
        refine (wpIn_wide (n := 5)).1 ?_
        refine range_own (n := 5) rfl (by omega) (gf := 16) (lb := #[.pointer (some ⟨m + 1, 0, none⟩)]) rfl trivial (enters_of Try.func16 (by kernel_rfl) rfl)
          HY (fun r hr => by omega) (fun h k => KpBox.trans h k) (fun W l o hl => (KpBox.refl _ W).put l (by omega) o) (Below.refl _ _) (fun _ => rfl)
          (fun pre W => Boxed W m 3 (.int .i64 (pre.length : Int)) ∧ OwnS w Bz g cap' ws2 W) (fun _ _ _ => False)
          (fun s X Y ht h => ⟨ht.boxed h.1 (by omega) (by omega), OwnS.turn ht h.2 hbb (by omega) (by omega) (by omega) (by omega) (by omega) (fun r hr => by omega)⟩)
          (fun _ _ _ _ _ h => h) ⟨q4, qc⟩ ?round ?done ?stop
        case stop =>
          intro D c' pre W _ _ h
          exact h.elim
        case round =>
          intro l pre x W hp hl hI
          gi_wp2
          refine ⟨KeepsFrom.refl _ _, KpBox.refl _ _, fun Wb ht _ => ?_⟩
          have i1 := ht.boxed hI.1 (by omega) (by omega)
          have i2 := OwnS.turn ht hI.2 hbb (by omega) (by omega) (by omega) (by omega) (by omega) (fun r hr => by omega)
          have hlen : pre.length < ws2.length := by have := hp.length_le; simp at this; omega
          have hx : ws2.getD pre.length ⟨#[]⟩ = x := by obtain ⟨t, ht⟩ := hp; rw [← ht]; simp
          have e1_ := i1.cell
          have e2_ := i1.frozen
          have e3_ := i2.2.1.cell
          have e4_ := i2.cell hlen
          rw [hx] at e4_
          have e5_ := i1.lt
          obtain ⟨e6_, e7_⟩ := i2.lt
          have FIN : ∀ W', W' = Wb.setCell ⟨m, 0, none⟩ (.int .i64 ((pre.length : Int) + 1)) → KeepsFrom W2.heap.size Wb W' ∧ KpBox (m + 1) Wb W' ∧ Boxed W' m 3 (.int .i64 (((pre ++ [x]).length : Nat) : Int)) ∧ OwnS w Bz g cap' ws2 W' := by
            rintro W' rfl
            refine ⟨(KeepsOthers.setCell _ _ _).from _, (KpBox.refl _ Wb).set _ (by simp) _, ?_, i2.set i1 (by omega)⟩
            rw [show (((pre ++ [x]).length : Nat) : Int) = (pre.length : Int) + 1 by simp]
            exact i1.set _
          have FIN' := Aside0.mk FIN
          clear FIN i1 i2 hI ht
          gi_wp2
          exact FIN'.out _ rfl
        case done =>
          rintro D W hD ⟨i1, i2⟩ hK
          have FF := Aside0.mk (show FinW w Bz g cap' m D ws2 W from ⟨i1, i2, hK⟩)
          clear i1 i2 hK HY q4 qc
          go_wp2_with (go_at_call 12; refine (within_call _ 0 15 _ (by omega) (by omega) (by omega)).mono ?_; rintro e wx ⟨c, rfl, c0, c1, dx⟩; have FF := Aside0.mk (FF.out.step hbb dx.below); clear dx)
          go_loopw [12, 72] (fun v12 v72 wr => ∃ (j : Nat) (t : ByteArray), v72 = .int .i64 (j : Int) ∧ (j : Int) ≤ c ∧ v12 = .string t ∧ bytesOf t = List.replicate j 119 ∧ Aside0 (FinW w Bz g cap' m D ws2 wr)) (fun _ v _ => 16 - (intOf v).toNat)
          case atStart => exact ⟨0, ⟨#[]⟩, rfl, by omega, rfl, rfl, FF⟩
          case round =>
            clear FF
            obtain ⟨j, t, rfl, hj, rfl, ht, FF⟩ := hrel
            have hts : t.size = j := by have := congrArg List.length ht; rw [bytesOf_length, List.length_replicate] at this; exact this
            by_cases hlt : (j : Int) < c
            · go_wp2
              go_roundw
              case rel =>
                refine ⟨j + 1, t ++ ⟨#[119]⟩, by go_num, by omega, rfl, ?_, FF⟩
                rw [List.replicate_succ', ← ht]
                simp [bytesOf, ByteArray.data_append]
              case measure => simp [intOf]; omega
            · obtain rfl : c = (j : Int) := by omega
              have hw := wordW j (by omega)
              rw [← ht] at hw
              have hwd := fun W => word_call t W (by omega)
              rw [hw] at hwd
              obtain ⟨x1_, x2_, x3_, x4_⟩ := FF.out.cells
              rcases (by omega : j = 0 ∨ (1 ≤ j ∧ j ≤ 12) ∨ 13 ≤ j) with h | ⟨h, h'⟩ | h
              · rw [show decide (1 ≤ j ∧ j ≤ 12) = false from by simp; omega] at hwd
                have WD := Aside0.mk hwd
                clear hwd hw ht
                go_wp2_with (first
                  | (go_at_call 7; (with_reducible refine (WD.out _).mono ?_); rintro e wa ⟨rfl, da⟩; have FF := Aside0.mk (FF.out.step hbb da.below); clear da)
                  | (go_at_call 7; (with_reducible refine (Q.escape_Word.calls 20 _ false _ word_ab).mono ?_); rintro e wb ⟨rfl, db⟩; have FF := Aside0.mk (FF.out.step hbb db.below); clear db)
                  | (go_at_call 7; (with_reducible refine (Q.escape_Word.calls 20 _ false _ word_sl).mono ?_); rintro e wc ⟨rfl, dc⟩; have FF := Aside0.mk (FF.out.step hbb dc.below); clear dc)
                  | (go_at_call 7; (with_reducible refine (Q.escape_Word.calls 20 _ false _ word_lf).mono ?_); rintro e wd_ ⟨rfl, dd⟩; have FF := Aside0.mk (FF.out.step hbb dd.below); clear dd)
                  | (go_at_call 3; (with_reducible refine (runs_walk _).mono ?_); rintro e wf ⟨rfl, bf⟩; have FF := Aside0.mk (FF.out.step hbb bf); obtain ⟨_, _, x5_, x6_⟩ := FF.out.cells; clear bf))
                obtain ⟨w1_, ⟨w2_, w3_, w4_, w5_⟩, w7_⟩ := FF.out
                have hDB : D ≠ Bz := by rintro rfl; have w2' : wf.heap[D]? = some (.cells #[.bool false] 4 (0, 0)) := w2_; rw [w7_] at w2'; cases w2'
                have hDl : Bz ≤ D := by omega
                have e2 : (wf.setCell ⟨Bz, 0, none⟩ (.bool true)).heap[D]? = some (.deferred (some [])) := (Below.heap_setCell _ _ _ _ (by simpa using hDB)).trans w7_
                have e3 : Boxed (wf.setCell ⟨Bz, 0, none⟩ (.bool true)) Bz 4 (.bool true) := Boxed.set _ w2_
                have e4 : Below Bz w (wf.setCell ⟨Bz, 0, none⟩ (.bool true)) := w5_.setCell (p := ⟨Bz, 0, none⟩) (Nat.le_refl _) _
                generalize wf.setCell ⟨Bz, 0, none⟩ (.bool true) = W9 at e2 e3 e4 ⊢
                have e8 := (e3.kept (grownBy_putObj' W9 D (.deferred none)) (by simp; omega)).cell
                refine ⟨by simp, .inl ⟨_, _, rfl, run_takeDeferred e2, .bool true, by simp [results, Try.f6, go_sem, e8], rfl, ?_⟩⟩
                rw [HBW.out]
                exact e4.grown (grownBy_putObj' W9 D (.deferred none)) (Nat.le_trans hbb e4.size) (fun k e => by cases e; omega)
              · rw [show decide (1 ≤ j ∧ j ≤ 12) = true from by simp; omega] at hwd
                have WD := Aside0.mk hwd
                clear hwd hw ht
                go_wp2_with (first
                  | (go_at_call 7; (with_reducible refine (WD.out _).mono ?_); rintro e wa ⟨rfl, da⟩; have FF := Aside0.mk (FF.out.step hbb da.below); clear da)
                  | (go_at_call 7; (with_reducible refine (Q.escape_Word.calls 20 _ false _ word_ab).mono ?_); rintro e wb ⟨rfl, db⟩; have FF := Aside0.mk (FF.out.step hbb db.below); clear db)
                  | (go_at_call 7; (with_reducible refine (Q.escape_Word.calls 20 _ false _ word_sl).mono ?_); rintro e wc ⟨rfl, dc⟩; have FF := Aside0.mk (FF.out.step hbb dc.below); clear dc)
                  | (go_at_call 7; (with_reducible refine (Q.escape_Word.calls 20 _ false _ word_lf).mono ?_); rintro e wd_ ⟨rfl, dd⟩; have FF := Aside0.mk (FF.out.step hbb dd.below); clear dd)
                  | (go_at_call 3; (with_reducible refine (runs_walk _).mono ?_); rintro e wf ⟨rfl, bf⟩; have FF := Aside0.mk (FF.out.step hbb bf); obtain ⟨_, _, x5_, x6_⟩ := FF.out.cells; clear bf))
                obtain ⟨w1_, ⟨w2_, w3_, w4_, w5_⟩, w7_⟩ := FF.out
                have hDB : D ≠ Bz := by rintro rfl; have w2' : wf.heap[D]? = some (.cells #[.bool false] 4 (0, 0)) := w2_; rw [w7_] at w2'; cases w2'
                have hDl : Bz ≤ D := by omega
                have e2 : (wf.setCell ⟨Bz, 0, none⟩ (.bool true)).heap[D]? = some (.deferred (some [])) := (Below.heap_setCell _ _ _ _ (by simpa using hDB)).trans w7_
                have e3 : Boxed (wf.setCell ⟨Bz, 0, none⟩ (.bool true)) Bz 4 (.bool true) := Boxed.set _ w2_
                have e4 : Below Bz w (wf.setCell ⟨Bz, 0, none⟩ (.bool true)) := w5_.setCell (p := ⟨Bz, 0, none⟩) (Nat.le_refl _) _
                generalize wf.setCell ⟨Bz, 0, none⟩ (.bool true) = W9 at e2 e3 e4 ⊢
                have e8 := (e3.kept (grownBy_putObj' W9 D (.deferred none)) (by simp; omega)).cell
                refine ⟨by simp, .inl ⟨_, _, rfl, run_takeDeferred e2, .bool true, by simp [results, Try.f6, go_sem, e8], rfl, ?_⟩⟩
                rw [HBW.out]
                exact e4.grown (grownBy_putObj' W9 D (.deferred none)) (Nat.le_trans hbb e4.size) (fun k e => by cases e; omega)
              · rw [show decide (1 ≤ j ∧ j ≤ 12) = false from by simp; omega] at hwd
                have WD := Aside0.mk hwd
                clear hwd hw ht
                go_wp2_with (first
                  | (go_at_call 7; (with_reducible refine (WD.out _).mono ?_); rintro e wa ⟨rfl, da⟩; have FF := Aside0.mk (FF.out.step hbb da.below); clear da)
                  | (go_at_call 7; (with_reducible refine (Q.escape_Word.calls 20 _ false _ word_ab).mono ?_); rintro e wb ⟨rfl, db⟩; have FF := Aside0.mk (FF.out.step hbb db.below); clear db)
                  | (go_at_call 7; (with_reducible refine (Q.escape_Word.calls 20 _ false _ word_sl).mono ?_); rintro e wc ⟨rfl, dc⟩; have FF := Aside0.mk (FF.out.step hbb dc.below); clear dc)
                  | (go_at_call 7; (with_reducible refine (Q.escape_Word.calls 20 _ false _ word_lf).mono ?_); rintro e wd_ ⟨rfl, dd⟩; have FF := Aside0.mk (FF.out.step hbb dd.below); clear dd)
                  | (go_at_call 3; (with_reducible refine (runs_walk _).mono ?_); rintro e wf ⟨rfl, bf⟩; have FF := Aside0.mk (FF.out.step hbb bf); obtain ⟨_, _, x5_, x6_⟩ := FF.out.cells; clear bf))
                rw [show (!decide ((j : Int) ≤ 12)) = true from by simp; omega]
                obtain ⟨w1_, ⟨w2_, w3_, w4_, w5_⟩, w7_⟩ := FF.out
                have hDB : D ≠ Bz := by rintro rfl; have w2' : wf.heap[D]? = some (.cells #[.bool false] 4 (0, 0)) := w2_; rw [w7_] at w2'; cases w2'
                have hDl : Bz ≤ D := by omega
                have e2 : (wf.setCell ⟨Bz, 0, none⟩ (.bool true)).heap[D]? = some (.deferred (some [])) := (Below.heap_setCell _ _ _ _ (by simpa using hDB)).trans w7_
                have e3 : Boxed (wf.setCell ⟨Bz, 0, none⟩ (.bool true)) Bz 4 (.bool true) := Boxed.set _ w2_
                have e4 : Below Bz w (wf.setCell ⟨Bz, 0, none⟩ (.bool true)) := w5_.setCell (p := ⟨Bz, 0, none⟩) (Nat.le_refl _) _
                generalize wf.setCell ⟨Bz, 0, none⟩ (.bool true) = W9 at e2 e3 e4 ⊢
                have e8 := (e3.kept (grownBy_putObj' W9 D (.deferred none)) (by simp; omega)).cell
                refine ⟨by simp, .inl ⟨_, _, rfl, run_takeDeferred e2, .bool true, by simp [results, Try.f6, go_sem, e8], rfl, ?_⟩⟩
                rw [HBW.out]
                exact e4.grown (grownBy_putObj' W9 D (.deferred none)) (Nat.le_trans hbb e4.size) (fun k e => by cases e; omega)
end Go.Proofs.Ytkfjaijjkbadfaa.Given
