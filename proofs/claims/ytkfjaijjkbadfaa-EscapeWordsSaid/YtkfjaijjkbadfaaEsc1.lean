/- escape.Put and escape.Read, walked: what they answer, on lists. -/
import Derived.Test.YtkfjaijjkbadfaaBldByte
import Derived.Test.YtkfjaijjkbadfaaWLast
import Derived.Test.YtkfjaijjkbadfaaWMore
import Derived.Deep.QuietTactic
import Derived.BigQuiet
set_option linter.unusedVariables false
set_option linter.unusedSimpArgs false
namespace Go.Proofs.Ytkfjaijjkbadfaa.Given
open Go.RowKit Go.Proofs.YtkfjaijjkbadfaaW.PrintWords Go.Proofs.YtkfjaijjkbadfaaW.PrintMore
/-- One byte as a word's. -/
def escC (c : Int) : List Int := if c = 32 then [92, 115] else if c = 10 then [92, 110] else if c = 92 then [92, 92] else [c]
def escL : List Int → List Int
  | [] => []
  | c :: r => escC c ++ escL r
/-- A word's text. -/
def unL : List Int → Option (List Int)
  | [] => some []
  | c :: r => if c = 92 then (match r with
      | [] => none
      | d :: r => (if d = 115 then some 32 else if d = 110 then some 10 else if d = 92 then some 92 else none).bind fun x => (unL r).map (x :: ·))
    else if c = 32 ∨ c = 10 then none else (unL r).map (c :: ·)
theorem unL_lit {c : Int} (r : List Int) (h : c ≠ 92) : unL (c :: r) = if c = 32 ∨ c = 10 then none else (unL r).map (c :: ·) := by cases r <;> simp [unL, h]
def escape_Put.f (s : ByteArray) : Option ByteArray := if s.size ≤ 1000000 then some (strOfNums (escL (bytesOf s))) else none
def escape_Read.f (s : ByteArray) : Option (ByteArray × Bool) := if s.size ≤ 1000000 then some (match unL (bytesOf s) with | none => (⟨#[]⟩, false) | some l => (strOfNums l, true)) else none
theorem nums_app (l m : List Int) : strOfNums (l ++ m) = strOfNums l ++ strOfNums m := by
  apply ByteArray.ext
  simp [strOfNums, ByteArray.data_append]
theorem nums_len (l : List Int) : (strOfNums l).size = l.length := by
  unfold strOfNums
  simp [ByteArray.size]
theorem escC_len (c : Int) : (escC c).length ≤ 2 := by
  unfold escC
  split
  · simp
  · split
    · simp
    · split <;> simp
theorem drop_bt (s : ByteArray) (i : Nat) (h : i < s.size) : (bytesOf s).drop i = bt s i :: (bytesOf s).drop (i + 1) := by
  have hl : i < (bytesOf s).length := by rw [bytesOf_length]; exact h
  rw [List.drop_eq_getElem_cons hl, ← rd_bytesOf]
  congr 1
  simp [rd, List.getD_eq_getElem?_getD, hl]
theorem bt_u8 (s : ByteArray) (i : Nat) (h : i < s.size) : 0 ≤ bt s i ∧ bt s i < 256 := by
  have := bt_range s i
  omega
set_option maxHeartbeats 2000000 in
set_option maxRecDepth 100000 in
theorem put_walk (s : ByteArray) (w : World) (hs : s.size ≤ 1000000) :
    Calls Try.prog 10 #[.string s] w fun e w' => e = .returned (.string (strOfNums (escL (bytesOf s)))) ∧ Below w.heap.size w w' := by
  go_enter Try.func10, Try.ntmps10
  go_wp2
  go_loopw [7] (fun i wr => ∃ (k : Nat) (acc : List Int), i = .int .i64 k ∧ k ≤ s.size ∧ acc.length ≤ 2 * k ∧ acc ++ escL ((bytesOf s).drop k) = escL (bytesOf s) ∧ Bd w.heap.size w.heap.size (strOfNums acc) wr ∧ Below w.heap.size w wr) (fun i _ => s.size - (intOf i).toNat)
  case atStart => exact ⟨0, [], rfl, Nat.zero_le _, by simp, rfl, bd_new w, (Below.refl _ w).alloc (Nat.le_refl _) _⟩
  case round =>
    obtain ⟨k, acc, rfl, hk, hl, ha, hb, hw⟩ := hrel
    have HB := Aside0.mk hb
    have HW := Aside0.mk hw
    clear hb hw
    by_cases hlt : k < s.size
    · have hd := drop_bt s k hlt
      rw [hd] at ha
      have hr := bt_u8 s k hlt
      have hx : ∀ h : k < s.size, ((s[k]'h).toNat : Int) = bt s k := fun h => by have := bt_at s (k : Int); simpa using this (by simpa using h)
      generalize bt s k = c at ha hr hx
      have nl := nums_len acc
      have HA := Aside0.mk ha
      have HN := Aside0.mk nl
      clear ha hd nl
      have lc := escC_len c
      have sz : w.heap.size ≤ wr.heap.size := HW.out.size
      -- the piece that is written
      have fin : ∀ W' : World, Bd w.heap.size w.heap.size (strOfNums acc ++ strOfNums (escC c)) W' → Below w.heap.size wr W' →
          ∃ (k' : Nat) (acc' : List Int), (Value.int .i64 ((k : Int) + 1)) = .int .i64 k' ∧ k' ≤ s.size ∧ acc'.length ≤ 2 * k' ∧ acc' ++ escL ((bytesOf s).drop k') = escL (bytesOf s) ∧ Bd w.heap.size w.heap.size (strOfNums acc') W' ∧ Below w.heap.size w W' := fun W' h1 h2 =>
        ⟨k + 1, acc ++ escC c, by go_num, by omega, by rw [List.length_append]; omega, by rw [← HA.out]; simp [escL, List.append_assoc], by rw [nums_app]; exact h1, HW.out.trans h2⟩
      by_cases c1 : c = 32
      · subst c1
        have fin' := Aside0.mk fin
        clear fin lc
        go_wp2_with (go_at_call 20; refine (bd_str _ _ _ ⟨#[92, 115]⟩ _ HB.out (by rw [HN.out]; simp [ByteArray.size]; omega) sz).mono ?_; rintro e w1 ⟨rfl, h1, h2⟩)
        go_roundw
        case rel => exact fin'.out w1 h1 h2
        case measure => simp [intOf]; omega
      by_cases c2 : c = 10
      · subst c2
        have fin' := Aside0.mk fin
        clear fin lc c1
        go_wp2_with (go_at_call 20; refine (bd_str _ _ _ ⟨#[92, 110]⟩ _ HB.out (by rw [HN.out]; simp [ByteArray.size]; omega) sz).mono ?_; rintro e w1 ⟨rfl, h1, h2⟩)
        go_roundw
        case rel => exact fin'.out w1 h1 h2
        case measure => simp [intOf]; omega
      by_cases c3 : c = 92
      · subst c3
        have fin' := Aside0.mk fin
        clear fin lc c1 c2
        go_wp2_with (go_at_call 20; refine (bd_str _ _ _ ⟨#[92, 92]⟩ _ HB.out (by rw [HN.out]; simp [ByteArray.size]; omega) sz).mono ?_; rintro e w1 ⟨rfl, h1, h2⟩)
        go_roundw
        case rel => exact fin'.out w1 h1 h2
        case measure => simp [intOf]; omega
      · have e : escC c = [c] := by unfold escC; rw [if_neg c1, if_neg c2, if_neg c3]
        rw [e] at fin
        have fin' := Aside0.mk fin
        have b1 : (c == 32) = false := by simpa using c1
        have b2 : (c == 10) = false := by simpa using c2
        have b3 : (c == 92) = false := by simpa using c3
        clear fin lc c1 c2 c3 e
        go_wp2_with (go_at_call 18; refine (bd_byte _ _ _ c _ hr.1 hr.2 HB.out (by rw [HN.out]; omega) sz).mono ?_; rintro e w1 ⟨rfl, h1, h2⟩)
        go_roundw
        case rel => exact fin'.out w1 h1 h2
        case measure => simp [intOf]; omega
    · obtain rfl : k = s.size := by omega
      have hd : (bytesOf s).drop s.size = [] := List.drop_eq_nil_of_le (by rw [bytesOf_length]; omega)
      rw [hd] at ha
      have e : acc = escL (bytesOf s) := by simpa [escL] using ha
      clear ha hd
      subst e
      have sz : w.heap.size ≤ wr.heap.size := HW.out.size
      go_wp2_with (go_at_call 19; refine (bd_text _ _ _ _ HB.out sz).mono ?_; rintro e w1 ⟨rfl, h2⟩)
      go_ret
      exact ⟨rfl, HW.out.trans h2⟩
theorem escape_Put.calls (a0 : ByteArray) (r : ByteArray) (w : World) (h : escape_Put.f a0 = some r) :
    Calls Try.prog 10 #[.string a0] w fun e w' => e = .returned (.string r) ∧ Below w.heap.size w w' := by
  unfold escape_Put.f at h
  split at h
  · rename_i hs
    injection h with h
    subst h
    exact put_walk a0 w hs
  · cases h
/-- What Read hands back. -/
def unR : Option (List Int) → Value
  | none => .tuple #[.string ⟨#[]⟩, .bool false]
  | some l => .tuple #[.string (strOfNums l), .bool true]
def ReadPost (s : ByteArray) (w : World) (e : Ending) (w' : World) : Prop := e = .returned (unR (unL (bytesOf s))) ∧ Below w.heap.size w w'
set_option maxHeartbeats 4000000 in
set_option maxRecDepth 100000 in
theorem read_walk (s : ByteArray) (w : World) (hs : s.size ≤ 1000000) : Calls Try.prog 9 #[.string s] w (ReadPost s w) := by
  go_enter Try.func9, Try.ntmps9
  go_wp2
  go_loopw [5] (fun i wr => ∃ (k : Nat) (acc : List Int), i = .int .i64 k ∧ k ≤ s.size ∧ acc.length ≤ k ∧ unL (bytesOf s) = (unL ((bytesOf s).drop k)).map (acc ++ ·) ∧ Bd w.heap.size w.heap.size (strOfNums acc) wr ∧ Below w.heap.size w wr) (fun i _ => s.size - (intOf i).toNat)
  case atStart => exact ⟨0, [], rfl, Nat.zero_le _, by simp, by simp, bd_new w, (Below.refl _ w).alloc (Nat.le_refl _) _⟩
  case round =>
    obtain ⟨k, acc, rfl, hk, hl, ha, hb, hw⟩ := hrel
    have HB := Aside0.mk hb
    have HW := Aside0.mk hw
    clear hb hw
    have nl := nums_len acc
    have HN := Aside0.mk nl
    clear nl
    have sz : w.heap.size ≤ wr.heap.size := HW.out.size
    by_cases hlt : k < s.size
    · have hd := drop_bt s k hlt
      rw [hd] at ha
      have hr := bt_u8 s k hlt
      have hx : ∀ h : k < s.size, ((s[k]'h).toNat : Int) = bt s k := fun h => by have := bt_at s (k : Int); simpa using this (by simpa using h)
      generalize bt s k = c at ha hr hx
      clear hd
      -- no word's text
      have bad : ∀ W', unL (bytesOf s) = none → Below w.heap.size w W' → ReadPost s w (.returned (.tuple #[.string ⟨#[]⟩, .bool false])) W' := fun W' e h => ⟨by rw [e]; rfl, h⟩
      have BAD := Aside0.mk bad
      clear bad
      by_cases c92 : c = 92
      · subst c92
        by_cases hlt2 : k + 1 < s.size
        · have hd2 := drop_bt s (k + 1) hlt2
          rw [hd2] at ha
          have hr2 := bt_u8 s ((k + 1 : Nat) : Int).toNat hlt2
          rw [Int.toNat_natCast] at hr2
          have hx2 : ∀ h : k + 1 < s.size, ((s[k + 1]'h).toNat : Int) = bt s ((k + 1 : Nat) : Int) := fun h => by have := bt_at s ((k + 1 : Nat) : Int); simpa using this (by simpa using h)
          generalize bt s ((k + 1 : Nat) : Int) = d at ha hr2 hx2
          have h2 : ¬ ((k : Int) + 1 = (s.size : Int)) := by omega
          have b2 : ((k : Int) + 1 == (s.size : Int)) = false := by simpa using h2
          clear hd2 h2
          by_cases d1 : d = 115
          · subst d1
            have fin : ∀ W' : World, Bd w.heap.size w.heap.size (strOfNums acc ++ strOfNums [32]) W' → Below w.heap.size wr W' →
                ∃ (k' : Nat) (acc' : List Int), (Value.int .i64 ((k : Int) + 2)) = .int .i64 k' ∧ k' ≤ s.size ∧ acc'.length ≤ k' ∧ unL (bytesOf s) = (unL ((bytesOf s).drop k')).map (acc' ++ ·) ∧ Bd w.heap.size w.heap.size (strOfNums acc') W' ∧ Below w.heap.size w W' := fun W' h1 h2 =>
              ⟨k + 2, acc ++ [32], by go_num, by omega, by rw [List.length_append]; simp; omega, by rw [ha]; simp [unL, Function.comp_def, List.append_assoc], by rw [nums_app]; exact h1, HW.out.trans h2⟩
            have FIN := Aside0.mk fin
            clear fin ha
            go_wp2_with (go_at_call 18; refine (bd_byte _ _ _ 32 _ (by omega) (by omega) HB.out (by rw [HN.out]; omega) sz).mono ?_; rintro e w1 ⟨rfl, h1, h2⟩)
            go_roundw
            case rel => exact FIN.out w1 h1 h2
            case measure => simp [intOf]; omega
          by_cases d2 : d = 110
          · subst d2
            have fin : ∀ W' : World, Bd w.heap.size w.heap.size (strOfNums acc ++ strOfNums [10]) W' → Below w.heap.size wr W' →
                ∃ (k' : Nat) (acc' : List Int), (Value.int .i64 ((k : Int) + 2)) = .int .i64 k' ∧ k' ≤ s.size ∧ acc'.length ≤ k' ∧ unL (bytesOf s) = (unL ((bytesOf s).drop k')).map (acc' ++ ·) ∧ Bd w.heap.size w.heap.size (strOfNums acc') W' ∧ Below w.heap.size w W' := fun W' h1 h2 =>
              ⟨k + 2, acc ++ [10], by go_num, by omega, by rw [List.length_append]; simp; omega, by rw [ha]; simp [unL, Function.comp_def, List.append_assoc], by rw [nums_app]; exact h1, HW.out.trans h2⟩
            have FIN := Aside0.mk fin
            clear fin ha d1
            go_wp2_with (go_at_call 18; refine (bd_byte _ _ _ 10 _ (by omega) (by omega) HB.out (by rw [HN.out]; omega) sz).mono ?_; rintro e w1 ⟨rfl, h1, h2⟩)
            go_roundw
            case rel => exact FIN.out w1 h1 h2
            case measure => simp [intOf]; omega
          by_cases d3 : d = 92
          · subst d3
            have fin : ∀ W' : World, Bd w.heap.size w.heap.size (strOfNums acc ++ strOfNums [92]) W' → Below w.heap.size wr W' →
                ∃ (k' : Nat) (acc' : List Int), (Value.int .i64 ((k : Int) + 2)) = .int .i64 k' ∧ k' ≤ s.size ∧ acc'.length ≤ k' ∧ unL (bytesOf s) = (unL ((bytesOf s).drop k')).map (acc' ++ ·) ∧ Bd w.heap.size w.heap.size (strOfNums acc') W' ∧ Below w.heap.size w W' := fun W' h1 h2 =>
              ⟨k + 2, acc ++ [92], by go_num, by omega, by rw [List.length_append]; simp; omega, by rw [ha]; simp [unL, Function.comp_def, List.append_assoc], by rw [nums_app]; exact h1, HW.out.trans h2⟩
            have FIN := Aside0.mk fin
            clear fin ha d1 d2
            go_wp2_with (go_at_call 18; refine (bd_byte _ _ _ 92 _ (by omega) (by omega) HB.out (by rw [HN.out]; omega) sz).mono ?_; rintro e w1 ⟨rfl, h1, h2⟩)
            go_roundw
            case rel => exact FIN.out w1 h1 h2
            case measure => simp [intOf]; omega
          · have none_ : unL (bytesOf s) = none := by rw [ha]; simp [unL, d1, d2, d3]
            have e1 : (d == 115) = false := by simpa using d1
            have e2 : (d == 110) = false := by simpa using d2
            have e3 : (d == 92) = false := by simpa using d3
            have NONE := Aside0.mk none_
            clear none_ ha d1 d2 d3
            go_wp2
            go_ret2
            exact BAD.out _ NONE.out HW.out
        · have he : k + 1 = s.size := by omega
          have hd2 : (bytesOf s).drop (k + 1) = [] := List.drop_eq_nil_of_le (by rw [bytesOf_length]; omega)
          rw [hd2] at ha
          have none_ : unL (bytesOf s) = none := by rw [ha]; simp [unL]
          have b2 : ((k : Int) + 1 == (s.size : Int)) = true := by simp; omega
          have NONE := Aside0.mk none_
          clear none_ ha hd2 he
          go_wp2
          go_ret2
          exact BAD.out _ NONE.out HW.out
      · have b92 : (c == 92) = false := by simpa using c92
        by_cases c32 : c = 32
        · subst c32
          have none_ : unL (bytesOf s) = none := by rw [ha, unL_lit _ c92]; simp
          have NONE := Aside0.mk none_
          clear none_ ha c92
          go_wp2
          go_ret2
          exact BAD.out _ NONE.out HW.out
        by_cases c10 : c = 10
        · subst c10
          have none_ : unL (bytesOf s) = none := by rw [ha, unL_lit _ c92]; simp
          have NONE := Aside0.mk none_
          clear none_ ha c92 c32
          go_wp2
          go_ret2
          exact BAD.out _ NONE.out HW.out
        · have b32 : (c == 32) = false := by simpa using c32
          have b10 : (c == 10) = false := by simpa using c10
          have fin : ∀ W' : World, Bd w.heap.size w.heap.size (strOfNums acc ++ strOfNums [c]) W' → Below w.heap.size wr W' →
              ∃ (k' : Nat) (acc' : List Int), (Value.int .i64 ((k : Int) + 1)) = .int .i64 k' ∧ k' ≤ s.size ∧ acc'.length ≤ k' ∧ unL (bytesOf s) = (unL ((bytesOf s).drop k')).map (acc' ++ ·) ∧ Bd w.heap.size w.heap.size (strOfNums acc') W' ∧ Below w.heap.size w W' := fun W' h1 h2 =>
            ⟨k + 1, acc ++ [c], by go_num, by omega, by rw [List.length_append]; simp; omega, by rw [ha, unL_lit _ c92]; simp [c32, c10, Function.comp_def, List.append_assoc], by rw [nums_app]; exact h1, HW.out.trans h2⟩
          have FIN := Aside0.mk fin
          clear fin ha c92 c32 c10
          go_wp2_with (go_at_call 18; refine (bd_byte _ _ _ c _ hr.1 hr.2 HB.out (by rw [HN.out]; omega) sz).mono ?_; rintro e w1 ⟨rfl, h1, h2⟩)
          go_roundw
          case rel => exact FIN.out w1 h1 h2
          case measure => simp [intOf]; omega
    · obtain rfl : k = s.size := by omega
      have hd : (bytesOf s).drop s.size = [] := List.drop_eq_nil_of_le (by rw [bytesOf_length]; omega)
      rw [hd] at ha
      have e : unL (bytesOf s) = some acc := by rw [ha]; simp [unL]
      have E := Aside0.mk e
      clear ha hd e
      go_wp2_with (go_at_call 19; refine (bd_text _ _ _ _ HB.out sz).mono ?_; rintro e w1 ⟨rfl, h2⟩)
      go_ret2
      exact ⟨by rw [E.out]; rfl, HW.out.trans h2⟩
theorem escape_Read.calls (a0 : ByteArray) (r1 : ByteArray) (r2 : Bool) (w : World) (h : escape_Read.f a0 = some (r1, r2)) :
    Calls Try.prog 9 #[.string a0] w fun e w' => e = .returned (.tuple #[.string r1, .bool r2]) ∧ Below w.heap.size w w' := by
  unfold escape_Read.f at h
  split at h
  · rename_i hs
    injection h with h
    refine (read_walk a0 w hs).mono ?_
    rintro e w' ⟨rfl, hb⟩
    refine ⟨?_, hb⟩
    cases hu : unL (bytesOf a0) with
    | none => rw [hu] at h; injection h with h1 h2; rw [← h1, ← h2]; rfl
    | some l => rw [hu] at h; injection h with h1 h2; rw [← h1, ← h2]; rfl
  · cases h
end Go.Proofs.Ytkfjaijjkbadfaa.Given
