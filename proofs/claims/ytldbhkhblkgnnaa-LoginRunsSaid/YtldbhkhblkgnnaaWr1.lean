/- wire.line: words of a line. -/
import Derived.Test.YtldbhkhblkgnnaaBld
import Derived.Test.YtldbhkhblkgnnaaPWire
import Derived.Test.YtldbhkhblkgnnaaPDigit
import Derived.OwnWalk
import Derived.RangeFuncBox
import Derived.Maps.AppendAt
set_option linter.unusedVariables false
set_option linter.unusedSimpArgs false
namespace Go.Proofs.Ytldbhkhblkgnnaa.Given
open Go.RowKit Go.Proofs.YtldbhkhblkgnnaaW.PrintWords
/-- A line of words. -/
def lineB (xs : List ByteArray) : ByteArray := ⟨(Lib.join (xs.map (·.data.toList)) [32]).toArray⟩ ++ ⟨#[10]⟩
theorem mk_size (l : List UInt8) : (⟨l.toArray⟩ : ByteArray).size = l.length := by simp [ByteArray.size]
theorem line_size (xs : List ByteArray) : (lineB xs).size = (Lib.join (xs.map (·.data.toList)) [32]).length + 1 := by
  unfold lineB
  rw [ByteArray.size_append, mk_size]
  rfl
theorem dl (x : ByteArray) : x.data.toList.length = x.size := data_length x
theorem line1_size (a : ByteArray) : (lineB [a]).size = a.size + 1 := by rw [line_size]; simp [Lib.join, dl]
theorem line2_size (a b : ByteArray) : (lineB [a, b]).size = a.size + b.size + 2 := by rw [line_size]; simp [Lib.join, dl]; omega
theorem line3_size (a b c : ByteArray) : (lineB [a, b, c]).size = a.size + b.size + c.size + 3 := by rw [line_size]; simp [Lib.join, dl]; omega
theorem line4_size (a b c d : ByteArray) : (lineB [a, b, c, d]).size = a.size + b.size + c.size + d.size + 4 := by rw [line_size]; simp [Lib.join, dl]; omega
set_option maxRecDepth 100000 in
theorem line_call (bk c : Nat) (xs : List ByteArray) (w : World) (hcells : ∀ (j : Nat) x, xs[j]? = some x → w.cell? ⟨bk, 0 + j, none⟩ = some (.string x)) (hbk : bk < w.heap.size) (hN : xs.length ≤ 1000000) (hcap : xs.length ≤ c) (hsz : (lineB xs).size ≤ 1000000) :
    Calls Try.prog 30 #[.slice (some ⟨bk, 0, none⟩) xs.length c] w fun e w' => e = .returned (.string (lineB xs)) ∧ Below w.heap.size w w' := by
  have hs := line_size xs
  have HJ := Aside0.mk (Try.strings_Join bk 0 c xs ⟨#[32]⟩ w hcells hbk (by omega) hcap (by show (Lib.join (xs.map (·.data.toList)) [32]).length ≤ _; omega))
  have hj : (⟨(Lib.join (xs.map (·.data.toList)) [32]).toArray⟩ : ByteArray).size + 1 ≤ 1000000 := by rw [mk_size]; omega
  have hl : lineB xs = ⟨(Lib.join (xs.map (·.data.toList)) [32]).toArray⟩ ++ ⟨#[10]⟩ := rfl
  rw [hl]
  have e : (⟨#[32]⟩ : ByteArray).data.toList = [32] := rfl
  rw [e] at HJ
  generalize (⟨(Lib.join (xs.map (·.data.toList)) [32]).toArray⟩ : ByteArray) = z at HJ hj ⊢
  clear hs hcells hl e
  go_enter Try.func30, Try.ntmps30
  go_wp2_with (go_at_call 44; refine HJ.out.mono ?_; rintro e w' ⟨rfl, hb⟩; have HB := Aside0.mk hb; clear hb)
  go_ret
  exact ⟨rfl, HB.out⟩
theorem line_one (a : ByteArray) (W : World) (h : a.size ≤ 10000) : Calls Try.prog 30 #[.slice (some ⟨W.heap.size, 0, none⟩) 1 1] (W.alloc (.cells #[.string a] 9)) fun e w' => e = .returned (.string (lineB [a])) ∧ Below W.heap.size W w' := by
  refine (line_call W.heap.size 1 [a] (W.alloc (.cells #[.string a] 9)) ?_ (by simp) (by simp) (by simp) (by rw [line1_size]; omega)).mono ?_
  · intro j x hx
    rw [Lib.cell_of_heap (World.alloc_heap_new W _)]
    match j, hx with
    | 0, hx => simp at hx; subst hx; rfl
  · rintro e w' ⟨rfl, hb⟩
    exact ⟨rfl, ((Below.refl _ W).alloc (Nat.le_refl _) _).trans (hb.mono (by simp))⟩
theorem line_oneN (a : ByteArray) (W : World) (n : Nat) (hn : W.heap.size = n) (h : a.size ≤ 10000) : Calls Try.prog 30 #[.slice (some ⟨n, 0, none⟩) 1 1] (W.alloc (.cells #[.string a] 9)) fun e w' => e = .returned (.string (lineB [a])) ∧ Below W.heap.size W w' := by
  subst hn
  exact line_one a W h
theorem line_two (a b : ByteArray) (W : World) (h : a.size + b.size ≤ 10000) : Calls Try.prog 30 #[.slice (some ⟨W.heap.size, 0, none⟩) 2 2] (W.alloc (.cells #[.string a, .string b] 9)) fun e w' => e = .returned (.string (lineB [a, b])) ∧ Below W.heap.size W w' := by
  refine (line_call W.heap.size 2 [a, b] (W.alloc (.cells #[.string a, .string b] 9)) ?_ (by simp) (by simp) (by simp) (by rw [line2_size]; omega)).mono ?_
  · intro j x hx
    rw [Lib.cell_of_heap (World.alloc_heap_new W _)]
    match j, hx with
    | 0, hx => simp at hx; subst hx; rfl
    | 1, hx => simp at hx; subst hx; rfl
  · rintro e w' ⟨rfl, hb⟩
    exact ⟨rfl, ((Below.refl _ W).alloc (Nat.le_refl _) _).trans (hb.mono (by simp))⟩
/-- Of a row of the call's own. -/
theorem line_own (g c : Nat) (xs : List ByteArray) (w : World) {base : Nat} (ho : w.ownsRow base 9 1 (.slice (some ⟨g, 0, none⟩) xs.length c) xs.length (xs.map Value.string)) (h1 : 1 ≤ xs.length) (hN : xs.length ≤ 1000000) (hsz : (lineB xs).size ≤ 1000000) :
    Calls Try.prog 30 #[.slice (some ⟨g, 0, none⟩) xs.length c] w fun e w' => e = .returned (.string (lineB xs)) ∧ Below w.heap.size w w' := by
  refine line_call g c xs w ?_ (ho.lt g rfl).2 hN ?_ hsz
  · intro j x hx
    have := ho.cells (g := g) rfl j (.string x) (by rw [List.getElem?_map, hx]; rfl)
    rw [add_plain] at this
    rw [Nat.zero_add]
    exact this
  · rcases ho.2 with ⟨hv, _⟩ | ⟨g', cap', cur, hv, _, _, h5, _⟩
    · cases hv
    · cases hv
      exact h5
theorem line_ownN (g c n : Nat) (xs : List ByteArray) (w : World) {base : Nat} (hn : xs.length = n) (ho : w.ownsRow base 9 1 (.slice (some ⟨g, 0, none⟩) n c) n (xs.map Value.string)) (h1 : 1 ≤ n) (hN : n ≤ 1000000) (hsz : (lineB xs).size ≤ 1000000) :
    Calls Try.prog 30 #[.slice (some ⟨g, 0, none⟩) n c] w fun e w' => e = .returned (.string (lineB xs)) ∧ Below w.heap.size w w' := by
  subst hn
  exact line_own g c xs w ho h1 hN hsz
/-! ### Dec, in clear -/
/-- A number's decimals, reckoned by so many rounds at most. -/
def decF : Nat → Nat → List Int
  | 0, _ => []
  | f + 1, n => if n < 10 then [48 + (n : Int)] else decF f (n / 10) ++ [48 + ((n % 10 : Nat) : Int)]
theorem decF_eq : ∀ (f n : Nat), n < 10 ^ f → decF f n = B.decL n ∨ f = 0 := by
  intro f
  induction f with
  | zero => intro n _; exact .inr rfl
  | succ f ih =>
    intro n hn
    refine .inl ?_
    unfold decF
    by_cases h : n < 10
    · rw [if_pos h, B.decL_lt h]
    · rw [if_neg h, B.decL_ge h]
      rcases ih (n / 10) (by rw [Nat.pow_succ] at hn; omega) with e | e
      · rw [e]
      · subst e; simp at hn; omega
theorem decF_len : ∀ (f n : Nat), (decF f n).length ≤ f := by
  intro f
  induction f with
  | zero => intro n; simp [decF]
  | succ f ih =>
    intro n
    unfold decF
    split
    · simp
    · have := ih (n / 10)
      simp; omega
/-- A number's decimals; nothing, if it is none that may be. -/
def decT (n : Int) : ByteArray := if 0 ≤ n ∧ n ≤ 1073741824 then strOfNums (decF 20 n.toNat) else ⟨#[]⟩
theorem decT_dec {n : Int} (h0 : 0 ≤ n) (h1 : n ≤ 1073741824) : decT n = B.decB n.toNat := by
  unfold decT B.decB
  rw [if_pos ⟨h0, h1⟩]
  rcases decF_eq 20 n.toNat (by omega) with e | e
  · rw [e]
  · cases e
theorem decT_size (n : Int) : (decT n).size ≤ 20 := by
  unfold decT
  split
  · rw [B.size_nums]; exact decF_len _ _
  · decide
theorem decT_ev (n : Int) : Ev (fun k => Q.digit_Dec.f k n) (decT n) := by
  by_cases h : 0 ≤ n ∧ n ≤ 1073741824
  · rw [decT_dec h.1 h.2]; exact B.dec_ev h.1 h.2
  · unfold decT
    rw [if_neg h]
    exact B.dec_no (by omega)
theorem decT_call (n : Int) (w : World) : Calls Try.prog 31 #[.int .i64 n] w fun e w' => e = .returned (.string (decT n)) ∧ Below w.heap.size w w' := by
  obtain ⟨k, hk⟩ := (decT_ev n).rounds
  exact Q.digit_Dec.calls k n _ w hk
end Go.Proofs.Ytldbhkhblkgnnaa.Given
