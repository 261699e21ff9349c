/- The journal: a piece. -/
import Derived.Test.YtpnnnhdhmdildaaJn2
import Derived.Laws.BytesArg
import Derived.Deep.RegionHeldLaw
set_option linter.unusedVariables false
set_option linter.unusedSimpArgs false
namespace Go.Proofs.Ytpnnnhdhmdildaa.Given
open Go.RowKit Go.Proofs.YtpnnnhdhmdildaaW.PrintWords
theorem conv1 (b : Nat) (c : Int) (W : World) (h : W.cell? ⟨b, 0, none⟩ = some (.int .u8 c)) : (convert 37 9 (.slice (some ⟨b, 0, none⟩) 1 1)).run Try.prog W =
    .ok (.string (strOfNums [c])) W := by
  refine run_convert_bytes_arg _ 37 5 Try.underlying37 Try.underlying5 b 0 1 1 [c] (by simp) (fun i hi => ?_) 9 Try.underlying9
  obtain rfl : i = 0 := by omega
  exact h
theorem bl {n : Nat} {w W w' : World} (hb : Below W.heap.size W w') (h : Below n w W) (hn : n ≤ w.heap.size) : Below n w w' := h.trans (hb.mono (Nat.le_trans hn h.size))
theorem bdrew {n : Nat} {w W : World} (h : Below n w W) : Below n w W.drew := ⟨h.os, h.tape, h.output, h.size, h.block⟩
theorem balloc {n : Nat} {w W : World} (o : Obj) (h : Below n w W) (hn : n ≤ w.heap.size) : Below n w (W.alloc o) := h.alloc (Nat.le_trans hn h.size) o
set_option maxRecDepth 100000 in
set_option maxHeartbeats 16000000 in
theorem piece_call (s : ByteArray) (m : Int) (w : World) (hs : s.size ≤ 30) :
    Calls Try.prog 30 #[.string s, .int .u8 m] w fun e w' => e = .returned (.string (strOfNums [(s.size : Int)] ++ s ++ ⟨(List.replicate (30 - s.size) (0 : UInt8)).toArray⟩ ++ strOfNums [m])) ∧ Below w.heap.size w w' := by
  obtain ⟨c, hc⟩ : ∃ c : Nat, 30 - s.size = c := ⟨_, rfl⟩
  have hr : (⟨(Lib.repeatL (⟨#[0]⟩ : ByteArray).data.toList c).toArray⟩ : ByteArray) = ⟨(List.replicate (30 - s.size) (0 : UInt8)).toArray⟩ := by
    rw [hc]
    have := Lib.repeatL_replicate 0 1 c
    simp only [Nat.mul_one] at this
    exact congrArg (fun l : List UInt8 => (⟨l.toArray⟩ : ByteArray)) this
  have HR := Aside0.mk (fun W => Try.strings_Repeat ⟨#[0]⟩ c W (by omega) (by show 1 * c ≤ _; omega))
  rw [← hr]
  have hz : (⟨(Lib.repeatL (⟨#[0]⟩ : ByteArray).data.toList c).toArray⟩ : ByteArray).size ≤ 30 := by
    rw [hr]
    show ((List.replicate (30 - s.size) (0 : UInt8)).toArray).size ≤ 30
    rw [List.size_toArray, List.length_replicate]
    omega
  generalize (⟨(Lib.repeatL (⟨#[0]⟩ : ByteArray).data.toList c).toArray⟩ : ByteArray) = z at HR hz ⊢
  have hcc : 30 - (s.size : Int) = (c : Int) := by omega
  have hcw : IntKind.i64.wrap (c : Int) = (c : Int) := IntWalk.i64_in _ (by omega)
  have hu : IntKind.u8.wrap (s.size : Int) = (s.size : Int) := IntWalk.u8_in _ (by omega)
  have c1 := fun (b : Nat) (W : World) => conv1 b (s.size : Int) W
  have c2 := fun (b : Nat) (W : World) => conv1 b m W
  have l1 : (strOfNums [(s.size : Int)]).size ≤ 1 := Nat.le_refl 1
  have l2 : (strOfNums [m]).size ≤ 1 := Nat.le_refl 1
  generalize strOfNums [(s.size : Int)] = n1 at c1 l1 ⊢
  generalize strOfNums [m] = n2 at c2 l2 ⊢
  clear hr
  have k1 : ∀ A B : Result Next, (if 9223372036854775807 < n1.size + s.size then A else B) = B := fun A B => if_neg (by omega)
  have k2 : ∀ A B : Result Next, (if 9223372036854775807 < n1.size + s.size + z.size then A else B) = B := fun A B => if_neg (by omega)
  have k3 : ∀ A B : Result Next, (if 9223372036854775807 < n1.size + s.size + z.size + n2.size then A else B) = B := fun A B => if_neg (by omega)
  go_enter Try.func30, Try.ntmps30
  go_wp2
  go_region_held_law (fun _ => True) (trivial) ((go_at_call 36; (with_reducible refine (HR.out _).mono ?_); rintro e w' ⟨rfl, hb⟩; have HB := Aside0.mk hb; have HX := fun (b : Nat) (h : b < _) => hb.cell (p := ⟨b, 0, none⟩) h; (try have hl1 : w.heap.size < w'.heap.size := (by have := hb.size; simp at this; omega)); (try have hl2 : w.heap.size + 1 < w'.heap.size := (by have := hb.size; simp at this; omega)); (try have hl3 : w.heap.size ≠ w'.heap.size := (by have := hb.size; simp at this; omega)); (try have hl4 : w.heap.size + 1 ≠ w'.heap.size := (by have := hb.size; simp at this; omega)); (try (have h0 := HX w.heap.size; simp [go_sem] at h0)); (try (have h1 := HX (w.heap.size + 1); simp [go_sem] at h1)); clear hb HX))
  all_goals go_wp2
  all_goals go_ret
  all_goals clear HR c1 c2 k1 k2 k3
  all_goals refine ⟨rfl, ?_⟩
  all_goals repeat' (first | exact Nat.le_refl _ | exact Below.refl _ _ | refine bl HB.out ?_ ?_ | refine balloc _ ?_ ?_ | refine bdrew ?_)
theorem PC (s : ByteArray) (m : Nat) (w : World) (hs : s.size ≤ 30) (hm : m ≤ 255) : Calls Try.prog 30 #[.string s, .int .u8 (m : Int)] w fun e w' => e = .returned (.string (J.pieceS s (UInt8.ofNat m))) ∧ Below w.heap.size w w' := by
  have e : strOfNums [(s.size : Int)] ++ s ++ ⟨(List.replicate (30 - s.size) (0 : UInt8)).toArray⟩ ++ strOfNums [(m : Int)] = J.pieceS s (UInt8.ofNat m) := rfl
  rw [← e]
  exact piece_call s m w hs
theorem PT (s : ByteArray) (w : World) (hs : s.size ≤ 1000000) : Calls Try.prog 16 #[.string s] w fun e w' => ∃ v, e = .returned v ∧ OwnP w v (J.piecesL s) w' := pieces_call PC s w hs
end Go.Proofs.Ytpnnnhdhmdildaa.Given
