/- Texts of blanks, line feeds, backslashes come back; no blank, no line feed is left; unlike texts are unlike words. For every input. No condition. -/
import Derived.Test.YtkfjaijjkbadfaaEscRuns
import Derived.Test.YtkfjaijjkbadfaaWithin
set_option linter.unusedVariables false
set_option linter.unusedSimpArgs false
namespace Go.Proofs.Ytkfjaijjkbadfaa.Given
open Go.RowKit Go.Proofs.YtkfjaijjkbadfaaW.PrintWords Go.Proofs.YtkfjaijjkbadfaaW.PrintMore
/-! ### on lists -/
theorem unL_escC (c : Int) (r : List Int) : unL (escC c ++ r) = (unL r).map (c :: ·) := by
  unfold escC
  by_cases c1 : c = 32
  · subst c1; simp [unL]
  rw [if_neg c1]
  by_cases c2 : c = 10
  · subst c2; simp [unL]
  rw [if_neg c2]
  by_cases c3 : c = 92
  · subst c3; simp [unL]
  rw [if_neg c3, List.cons_append, List.nil_append, unL_lit _ c3, if_neg (by omega)]
theorem unL_esc (l : List Int) : unL (escL l) = some l := by
  induction l with
  | nil => rfl
  | cons c l ih => unfold escL; rw [unL_escC, ih]; rfl
theorem escL_inj {l m : List Int} (h : escL l = escL m) : l = m := by
  have h1 := unL_esc l
  rw [h, unL_esc] at h1
  exact (Option.some.inj h1).symm
theorem escC_mem (c x : Int) (hx : x ∈ escC c) : x ≠ 32 ∧ x ≠ 10 ∧ (0 ≤ c ∧ c < 256 → 0 ≤ x ∧ x < 256) := by
  unfold escC at hx
  split at hx
  · simp only [List.mem_cons, List.not_mem_nil, or_false] at hx; omega
  · split at hx
    · simp only [List.mem_cons, List.not_mem_nil, or_false] at hx; omega
    · split at hx
      · simp only [List.mem_cons, List.not_mem_nil, or_false] at hx; omega
      · simp only [List.mem_cons, List.not_mem_nil, or_false] at hx; omega
theorem escL_mem (l : List Int) (x : Int) (hx : x ∈ escL l) : x ≠ 32 ∧ x ≠ 10 ∧ ((∀ c ∈ l, 0 ≤ c ∧ c < 256) → 0 ≤ x ∧ x < 256) := by
  induction l with
  | nil => cases hx
  | cons c l ih =>
    unfold escL at hx
    rcases List.mem_append.1 hx with h | h
    · obtain ⟨h1, h2, h3⟩ := escC_mem c x h
      exact ⟨h1, h2, fun g => h3 (g c (List.mem_cons_self ..))⟩
    · obtain ⟨h1, h2, h3⟩ := ih h
      exact ⟨h1, h2, fun g => h3 fun y hy => g y (List.mem_cons_of_mem _ hy)⟩
theorem escL_len (l : List Int) : (escL l).length ≤ 2 * l.length := by
  induction l with
  | nil => simp [escL]
  | cons c l ih => unfold escL; have := escC_len c; rw [List.length_append, List.length_cons]; omega
theorem bytesOf_lt (s : ByteArray) : ∀ x ∈ bytesOf s, 0 ≤ x ∧ x < 256 := by
  intro x hx
  unfold bytesOf at hx
  obtain ⟨b, _, rfl⟩ := List.mem_map.1 hx
  have := b.toNat_lt
  omega
theorem bytes_inj {s t : ByteArray} (h : bytesOf s = bytesOf t) : s = t := by
  have inj : ∀ (l m : List UInt8), (l.map fun b => (b.toNat : Int)) = (m.map fun b => (b.toNat : Int)) → l = m := by
    intro l
    induction l with
    | nil => intro m hm; cases m with
      | nil => rfl
      | cons b m => simp at hm
    | cons a l ih => intro m hm; cases m with
      | nil => simp at hm
      | cons b m =>
        simp only [List.map_cons, List.cons.injEq] at hm
        rw [ih m hm.2, UInt8.toNat_inj.1 (Int.ofNat.inj hm.1)]
  apply ByteArray.ext
  exact Array.toList_inj.1 (inj _ _ h)
theorem bytes_nums {l : List Int} (h : ∀ x ∈ l, 0 ≤ x ∧ x < 256) : bytesOf (strOfNums l) = l := by
  unfold bytesOf strOfNums
  simp only [List.map_map]
  have : ∀ (l : List Int), (∀ x ∈ l, 0 ≤ x ∧ x < 256) → l.map ((fun b : UInt8 => (b.toNat : Int)) ∘ fun n => UInt8.ofNat n.toNat) = l := by
    intro l
    induction l with
    | nil => intro _; rfl
    | cons a l ih =>
      intro h
      have ha := h a (List.mem_cons_self ..)
      rw [List.map_cons, ih (fun x hx => h x (List.mem_cons_of_mem _ hx))]
      congr 1
      simp only [Function.comp, UInt8.toNat_ofNat']
      omega
  simpa using this l h
theorem nums_bytes (s : ByteArray) : strOfNums (bytesOf s) = s := bytes_inj (bytes_nums (bytesOf_lt s))
theorem esc_bytes (s : ByteArray) : bytesOf (strOfNums (escL (bytesOf s))) = escL (bytesOf s) := bytes_nums fun x hx => (escL_mem _ x hx).2.2 (bytesOf_lt s)
/-! ### the texts -/
def OfPost (w : World) (e : Ending) (w' : World) : Prop := ∃ r : ByteArray, e = .returned (.string r) ∧ r.size ≤ 12 ∧ Below w.heap.size w w'
def OfRow (w : World) (a : Option Addr) (len cap : Nat) (zs : List Int) : Prop :=
  (a = none ∧ len = 0 ∧ cap = 0 ∧ zs = []) ∨ ∃ x, a = some x ∧ len ≤ cap ∧ cap ≤ maxLen ∧ zs.length = cap ∧ (∀ i, i < zs.length → w.cell? (x.add i) = some (.int .i64 (zs.getD i 0))) ∧ ∀ n ∈ zs, (Lit.int .i64 n).wf = true
theorem add_block (x : Addr) (k : Nat) : (x.add k).block = x.block := by unfold Addr.add; split <;> rfl
theorem cell_lt {w : World} {a : Addr} {v : Value} (h : w.cell? a = some v) : a.block < w.heap.size := by
  unfold World.cell? at h
  cases hb : w.heap[a.block]? with
  | none => rw [hb] at h; simp at h
  | some o => exact (Array.getElem?_eq_some_iff.1 hb).1
set_option maxHeartbeats 4000000 in
set_option maxRecDepth 100000 in
theorem of_walk (w0 w : World) (a : Option Addr) (len cap : Nat) (zs : List Int) (hr : OfRow w0 a len cap zs) (hlen : len ≤ 1152921504606846975) (hb : Below w0.heap.size w0 w) :
    Calls Try.prog 15 #[.slice a len cap] w (OfPost w) := by
  have hcell : ∀ k, k < len → ∃ x : Addr, a = some x ∧ x.block < w.heap.size ∧ w.cell? (x.add k) = some (.int .i64 (zs.getD k 0)) := by
    intro k hk
    rcases hr with ⟨_, h0, _, _⟩ | ⟨x, rfl, h1, h2, h3, h4, _⟩
    · omega
    · have hc := h4 k (by omega)
      have hl := cell_lt hc
      rw [add_block] at hl
      exact ⟨x, rfl, Nat.lt_of_lt_of_le hl hb.size, (hb.cell (p := x.add k) (by rw [add_block]; exact hl)).trans hc⟩
  have HC := Aside0.mk hcell
  clear hcell hr hb
  go_enter Try.func15, Try.ntmps15
  go_wp2
  go_loopw [3, 4] (fun o i wr => ∃ (k : Nat) (s : ByteArray), i = .int .i64 k ∧ k ≤ len ∧ k ≤ 12 ∧ o = .string s ∧ s.size ≤ k ∧ Below w.heap.size w wr) (fun _ i _ => 12 - (intOf i).toNat)
  case atStart => exact ⟨0, ⟨#[]⟩, rfl, Nat.zero_le _, Nat.zero_le _, rfl, Nat.le_refl _, Below.refl _ _⟩
  case round =>
    obtain ⟨k, s, rfl, hk, hk2, rfl, hs, hw⟩ := hrel
    have HW := Aside0.mk hw
    clear hw
    by_cases g : k < len ∧ k < 12
    · obtain ⟨g1, g2⟩ := g
      obtain ⟨x, rfl, hx, hc⟩ := HC.out k g1
      have hc' : wr.cell? (x.add k) = some (.int .i64 (zs.getD k 0)) := (HW.out.cell (p := x.add k) (by rw [add_block]; exact hx)).trans hc
      have hxw : (x.add k).block < wr.heap.size := by rw [add_block]; exact Nat.lt_of_lt_of_le hx HW.out.size
      have hdec : decide ((k : Int) < 12) = true := decide_eq_true (by omega)
      clear hc
      go_wp2_with (go_at_call 12; refine (within_call _ 0 5 _ (by omega) (by omega) (by omega)).mono ?_; rintro e w' ⟨r, rfl, r0, r1, ⟨nd, rfl⟩⟩; rcases (by omega : r = 0 ∨ r = 1 ∨ r = 2 ∨ r = 3 ∨ r = 4 ∨ r = 5) with rfl | rfl | rfl | rfl | rfl | rfl)
      all_goals
        go_roundw
        case rel => exact ⟨k + 1, _, by go_num, by omega, by omega, rfl, by rw [ByteArray.size_append]; simp only [ByteArray.size, List.size_toArray, List.length_cons, List.length_nil]; have : s.data.size ≤ k := hs; omega, below_drawn (HW.out.alloc HW.out.size _) ⟨⟨nd, rfl⟩⟩⟩
        case measure => simp [intOf]; omega
    · have fin : OfPost w (.returned (.string s)) wr := ⟨s, rfl, by omega, HW.out⟩
      by_cases g1 : k < len
      · have g2 : ¬ k < 12 := fun h => g ⟨g1, h⟩
        have hdec : decide ((k : Int) < 12) = false := decide_eq_false (by omega)
        clear g g2
        go_wp2
        go_ret
        exact fin
      · clear g
        go_wp2
        go_ret
        exact fin
/-! ### the statement -/
theorem mem_bt {s : ByteArray} {i : Nat} (h : i < s.size) : bt s i ∈ bytesOf s := by
  have := drop_bt s i h
  have hm : bt s i ∈ (bytesOf s).drop i := by rw [this]; exact List.mem_cons_self ..
  exact List.mem_of_mem_drop hm
theorem put_call (s : ByteArray) (w : World) (hs : s.size ≤ 1000000) : Calls Try.prog 10 #[.string s] w fun e w' => ∃ p : ByteArray, e = .returned (.string p) ∧ bytesOf p = escL (bytesOf s) ∧ Below w.heap.size w w' :=
  (put_walk s w hs).mono fun e w' h => ⟨_, h.1, esc_bytes s, h.2⟩
theorem read_call (p s : ByteArray) (w : World) (hs : p.size ≤ 1000000) (h : unL (bytesOf p) = some (bytesOf s)) : Calls Try.prog 9 #[.string p] w fun e w' => e = .returned (.tuple #[.string s, .bool true]) ∧ Below w.heap.size w w' :=
  (read_walk p w hs).mono fun e w' hp => ⟨by rw [hp.1, h]; simp only [unR, nums_bytes], hp.2⟩
theorem list_eq_iff (s t : ByteArray) : s.toList = t.toList ↔ s = t := by
  rw [ByteArray.toList_eq, ByteArray.toList_eq]
  exact ⟨fun h => ByteArray.ext (Array.toList_inj.1 h), fun h => by rw [h]⟩
set_option maxHeartbeats 8000000 in
set_option maxRecDepth 100000 in
theorem back_walk (a0 : Option Addr) (len0 cap0 : Nat) (z0 : List Int) (a1 : Option Addr) (len1 cap1 : Nat) (z1 : List Int) (w : World) (w0 : OfRow w a0 len0 cap0 z0) (y0 : len0 * 8 ≤ 140737488351232) (w1 : OfRow w a1 len1 cap1 z1) (y1 : len1 * 8 ≤ 140737488351232) :
    Calls Try.prog 5 #[.slice a0 len0 cap0, .slice a1 len1 cap1] w fun e w' => e = .returned (.bool true) ∧ Below w.heap.size w w' := by
  have H0 := Aside0.mk w0
  have H1 := Aside0.mk w1
  clear w0 w1
  go_enter Try.func5, Try.ntmps5
  go_wp2_with (go_at_call 15; (with_reducible refine (of_walk w _ a0 len0 cap0 z0 H0.out (by omega) (Below.refl _ _)).mono ?_); rintro e wa ⟨sa, rfl, la, ba⟩)
  refine (of_walk w wa a1 len1 cap1 z1 H1.out (by omega) ba).mono ?_
  rintro e wb ⟨sb, rfl, lb, bb⟩
  have B1 := Aside0.mk (ba.trans (bb.mono ba.size))
  clear ba bb
  go_wp2_with (first
    | (go_at_call 10; (with_reducible refine (put_call sa _ (by omega)).mono ?_); rintro e wc ⟨p, rfl, hp, bc⟩; have HP := Aside0.mk hp; have B2 := Aside0.mk (B1.out.trans (bc.mono B1.out.size)); clear hp bc))
  refine (put_call sb _ (by omega)).mono ?_
  rintro e wd ⟨q, rfl, hq, bd⟩
  have HQ := Aside0.mk hq
  have B3 := Aside0.mk (B2.out.trans (bd.mono B2.out.size))
  clear hq bd B1 B2
  have lp : p.size ≤ 2 * sa.size := by
    have h1 := congrArg List.length HP.out
    rw [bytesOf_length] at h1
    have h2 := escL_len (bytesOf sa)
    rw [bytesOf_length] at h2
    omega
  have hfree : ∀ k, k < p.size → bt p k ≠ 32 ∧ bt p k ≠ 10 := by
    intro k hk
    have hm := mem_bt hk
    rw [HP.out] at hm
    exact ⟨(escL_mem _ _ hm).1, (escL_mem _ _ hm).2.1⟩
  have HF := Aside0.mk hfree
  have hread : unL (bytesOf p) = some (bytesOf sa) := by rw [HP.out]; exact unL_esc _
  have HR := Aside0.mk hread
  have heq : p = q ↔ sa = sb := by
    constructor
    · intro h
      have := congrArg bytesOf h
      rw [HP.out, HQ.out] at this
      exact bytes_inj (escL_inj this)
    · intro h
      apply bytes_inj
      rw [HP.out, HQ.out, h]
  have HE := Aside0.mk heq
  clear hfree hread heq
  go_wp2
  go_loop [25] (fun i => ∃ k : Nat, i = .int .i64 k ∧ k ≤ p.size) (fun i => p.size - (intOf i).toNat)
  case atStart => exact ⟨0, rfl, Nat.zero_le _⟩
  case round =>
    obtain ⟨k, rfl, hk⟩ := hrel
    by_cases hlt : k < p.size
    · have hx : ∀ h : k < p.size, ((p[k]'h).toNat : Int) = bt p k := fun h => by have := bt_at p (k : Int); simpa using this (by simpa using h)
      obtain ⟨n1, n2⟩ := HF.out k hlt
      generalize bt p k = c at hx n1 n2
      have e1 : (c == 32) = false := by simpa using n1
      have e2 : (c == 10) = false := by simpa using n2
      clear n1 n2
      go_wp2
      go_round
      case rel => exact ⟨k + 1, by go_num, by omega⟩
      case measure => simp [intOf]; omega
    · by_cases hs : sa = sb
      · have hpq := HE.out.2 hs
        subst hs
        subst hpq
        clear HQ
        go_wp2_with (first
          | (go_at_call 9; (with_reducible refine (read_call p sa _ (by omega) HR.out).mono ?_); rintro e we ⟨rfl, be⟩; have B4 := Aside0.mk (B3.out.trans (be.mono B3.out.size)); clear be)
          | (go_at_call 3; (with_reducible refine (runs_walk _).mono ?_); rintro e wf ⟨rfl, bf⟩; have B5 := Aside0.mk (B4.out.trans (bf.mono B4.out.size)); clear bf))
        go_ret
        exact ⟨rfl, B5.out⟩
      · have hpq : ¬ p = q := fun h => hs (HE.out.1 h)
        have e1 : (p.toList == q.toList) = false := by simpa [list_eq_iff] using hpq
        have e2 : (sa.toList == sb.toList) = false := by simpa [list_eq_iff] using hs
        clear hs hpq
        go_wp2_with (first
          | (go_at_call 9; (with_reducible refine (read_call p sa _ (by omega) HR.out).mono ?_); rintro e we ⟨rfl, be⟩; have B4 := Aside0.mk (B3.out.trans (be.mono B3.out.size)); clear be)
          | (go_at_call 3; (with_reducible refine (runs_walk _).mono ?_); rintro e wf ⟨rfl, bf⟩; have B5 := Aside0.mk (B4.out.trans (bf.mono B4.out.size)); clear bf))
        go_ret
        exact ⟨rfl, B5.out⟩
end Go.Proofs.Ytkfjaijjkbadfaa.Given
