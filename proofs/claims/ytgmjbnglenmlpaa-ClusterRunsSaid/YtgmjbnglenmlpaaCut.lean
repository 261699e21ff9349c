/- strings.Cut at one byte, walked. -/
import Derived.Test.YtgmjbnglenmlpaaShelf
import Derived.Test.YtgmjbnglenmlpaaWWords
import Derived.WalkKit
import Derived.Lib.Bytealg
import Derived.Deep.QuietTactic
import Derived.BigQuiet
set_option linter.unusedVariables false
set_option linter.unusedSimpArgs false
namespace Go.Proofs.Ytgmjbnglenmlpaa.Given
open Go.RowKit Go.Proofs.YtgmjbnglenmlpaaW.PrintWords
/-- A text, cut at the first byte c. -/
def cutI (s : ByteArray) (c : UInt8) : ByteArray × ByteArray × Bool :=
  if Lib.indexByte s.data.toList c < 0 then (s, ⟨#[]⟩, false) else (s.extract 0 (Lib.indexByte s.data.toList c).toNat, s.extract ((Lib.indexByte s.data.toList c).toNat + 1) s.size, true)
theorem idx_lt (l : List UInt8) (c : UInt8) : -1 ≤ Lib.indexByte l c ∧ Lib.indexByte l c < (l.length : Int) := by
  induction l with
  | nil => simp [Lib.indexByte]
  | cons a l ih => simp only [Lib.indexByte, List.length_cons]; split <;> (try split) <;> omega
def CutPost (P : Program) (s : ByteArray) (c : UInt8) (w : World) (e : Ending) (w' : World) : Prop := e = .returned (.tuple #[.string (cutI s c).1, .string (cutI s c).2.1, .bool (cutI s c).2.2]) ∧ Drawn0 w w'
set_option maxHeartbeats 1000000 in
set_option maxRecDepth 100000 in
theorem cut_inner (s : ByteArray) (c : UInt8) (w : World) (hs : s.size ≤ 140737488351232) : Calls Try.prog 43 #[.string s, .string ⟨#[c]⟩] w (CutPost Try.prog s c w) := by
  have hi := idx_lt s.data.toList c
  have hl : (s.data.toList.length : Int) = s.size := by rw [Array.length_toList]; rfl
  rw [hl] at hi
  have hc : cutI s c = if Lib.indexByte s.data.toList c < 0 then (s, ⟨#[]⟩, false) else (s.extract 0 (Lib.indexByte s.data.toList c).toNat, s.extract ((Lib.indexByte s.data.toList c).toNat + 1) s.size, true) := rfl
  have hI := Try.stringslite_Index_one s c
  generalize Lib.indexByte s.data.toList c = i at hi hc hI
  clear hl
  by_cases h0 : i < 0
  · rw [if_pos h0] at hc
    have HC := Aside0.mk hc
    have HI := Aside0.mk hI
    clear hc hI
    go_enter Try.func43, Try.ntmps43
    go_wp2_with (go_at_call 51; refine (HI.out _).mono ?_; rintro e w' ⟨rfl, rfl⟩)
    go_ret3
    exact ⟨by rw [HC.out]; rfl, Drawn0.refl _⟩
  · rw [if_neg h0] at hc
    obtain ⟨k, rfl⟩ : ∃ k : Nat, i = k := ⟨i.toNat, by omega⟩
    have HC := Aside0.mk hc
    have HI := Aside0.mk hI
    have b0 : decide (0 ≤ (k : Int)) = true := by simp
    clear hc hI h0
    go_enter Try.func43, Try.ntmps43
    go_wp2_with (go_at_call 51; refine (HI.out _).mono ?_; rintro e w' ⟨rfl, rfl⟩)
    go_quiet (fail)
    go_wp2
    go_ret3
    exact ⟨by rw [HC.out, Int.toNat_natCast]; rfl, ⟨⟨_, rfl⟩⟩⟩
set_option maxHeartbeats 1000000 in
set_option maxRecDepth 100000 in
/-- strings.Cut at one byte. -/
theorem cut_one (s : ByteArray) (c : UInt8) (w : World) (hs : s.size ≤ 140737488351232) : Calls Try.prog 33 #[.string s, .string ⟨#[c]⟩] w fun e w' => e = .returned (.tuple #[.string (cutI s c).1, .string (cutI s c).2.1, .bool (cutI s c).2.2]) ∧ Drawn0 w w' := by
  have hI := cut_inner s c
  unfold CutPost at hI
  generalize cutI s c = r at hI
  obtain ⟨r1, r2, r3⟩ := r
  have HI := Aside0.mk hI
  clear hI
  go_enter Try.func33, Try.ntmps33
  go_wp2_with (go_at_call 43; refine (HI.out _ hs).mono ?_; rintro e w' ⟨rfl, hd⟩)
  go_ret3
  exact ⟨rfl, hd⟩
end Go.Proofs.Ytgmjbnglenmlpaa.Given
