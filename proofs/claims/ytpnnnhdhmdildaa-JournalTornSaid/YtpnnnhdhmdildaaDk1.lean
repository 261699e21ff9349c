/- The disk: how it lies in memory, and its small methods. -/
import Derived.Test.YtpnnnhdhmdildaaShelf
import Derived.Test.YtpnnnhdhmdildaaWWords
import Derived.WalkKit
import Derived.OwnWalk
import Derived.OneCell
import Derived.RangeFuncBox
import Derived.Maps.AppendAt
import Derived.Deep.QuietTactic
import Derived.BigQuiet
import Derived.StillTailTactics
import Derived.Lib.SmallJoins
set_option linter.unusedVariables false
set_option linter.unusedSimpArgs false
namespace Go.Proofs.Ytpnnnhdhmdildaa.Given
open Go.RowKit Go.Proofs.YtpnnnhdhmdildaaW.PrintWords
/-- A step that leaves all that lay as it was, but for some blocks. -/
structure Ch (S : Nat → Prop) (w w' : World) : Prop where
  os : w'.os = w.os
  tape : w'.tape = w.tape
  output : w'.output = w.output
  size : w.heap.size ≤ w'.heap.size
  block : ∀ i, i < w.heap.size → ¬ S i → w'.heap[i]? = w.heap[i]?
theorem Ch.refl (S : Nat → Prop) (w : World) : Ch S w w := ⟨rfl, rfl, rfl, Nat.le_refl _, fun _ _ _ => rfl⟩
theorem Ch.trans {S : Nat → Prop} {a b c : World} (h : Ch S a b) (k : Ch S b c) : Ch S a c :=
  ⟨k.os.trans h.os, k.tape.trans h.tape, k.output.trans h.output, Nat.le_trans h.size k.size, fun i hi hs => (k.block i (Nat.lt_of_lt_of_le hi h.size) hs).trans (h.block i hi hs)⟩
theorem Ch.mono {S T : Nat → Prop} {a b : World} (h : Ch S a b) (hst : ∀ i, i < a.heap.size → S i → T i) : Ch T a b :=
  ⟨h.os, h.tape, h.output, h.size, fun i hi hs => h.block i hi fun x => hs (hst i hi x)⟩
theorem Ch.of_below {S : Nat → Prop} {a b : World} {B : Nat} (h : Below B a b) (hB : ∀ i, i < a.heap.size → B ≤ i → S i) : Ch S a b :=
  ⟨h.os, h.tape, h.output, h.size, fun i hi hs => h.block i (Nat.lt_of_not_le fun x => hs (hB i hi x))⟩
theorem Ch.of_new {S : Nat → Prop} {a b : World} (h : Below a.heap.size a b) : Ch S a b := Ch.of_below h fun i hi hb => absurd hb (by omega)
theorem Ch.of_drawn {S : Nat → Prop} {a b : World} (h : Drawn0 a b) : Ch S a b := Ch.of_new h.below
theorem Ch.below {S : Nat → Prop} {B : Nat} {w a b : World} (h : Ch S a b) (hw : Below B w a) (hB : B ≤ w.heap.size) (hS : ∀ i, S i → B ≤ i) : Below B w b :=
  ⟨h.os.trans hw.os, h.tape.trans hw.tape, h.output.trans hw.output, Nat.le_trans hw.size h.size, fun i hi => (h.block i (Nat.lt_of_lt_of_le hi (Nat.le_trans hB hw.size)) fun x => absurd (hS i x) (by omega)).trans (hw.block i hi)⟩
theorem Ch.set {S : Nat → Prop} {a b : World} (h : Ch S a b) (p : Addr) (hp : S p.block) (v : Value) : Ch S a (b.setCell p v) :=
  h.trans ⟨rfl, rfl, rfl, by simp, fun i hi hs => Below.heap_setCell _ _ _ _ (fun e => hs (e ▸ hp))⟩
/-- A disk, as the chapter says it. -/
structure DS where
  secs : List ByteArray
  armed : Bool
  left : Int
  keep : Int
  down : Bool
/-- What a disk's numbers keep to. -/
structure DS.Ok (D : DS) : Prop where
  one : 1 ≤ D.secs.length
  most : D.secs.length ≤ 2000
  size : ∀ s ∈ D.secs, s.size = 32
  keep0 : 0 ≤ D.keep
  keep1 : D.keep ≤ 32
  left0 : -4611686018427387904 ≤ D.left
  left1 : D.left ≤ 9223372036854775807
/-- A disk in memory: its block, its sectors' block. -/
def DiskAt (b p g : Nat) (D : DS) (w : World) : Prop :=
  b ≤ p ∧ ∃ cap, w.heap[p]? = some (.cells #[.slice (some ⟨g, 0, none⟩) D.secs.length cap, .bool D.armed, .int .i64 D.left, .int .i64 D.keep, .bool D.down] 60 (0, 0)) ∧
    w.ownsRow b 9 1 (.slice (some ⟨g, 0, none⟩) D.secs.length cap) D.secs.length (D.secs.map Value.string)
theorem DiskAt.g {b p g : Nat} {D : DS} {w : World} (h : DiskAt b p g D w) : b ≤ g ∧ g < w.heap.size ∧ p < w.heap.size ∧ p ≠ g := by
  obtain ⟨hb, cap, h1, h2⟩ := h
  obtain ⟨l1, l2⟩ := h2.lt g rfl
  refine ⟨l1, l2, (Array.getElem?_eq_some_iff.1 h1).1, fun e => ?_⟩
  rcases h2.2 with ⟨hv, _⟩ | ⟨g', cap', cur, hv, _, hg, _⟩
  · cases hv
  · cases hv
    rw [e, hg] at h1
    cases h1
theorem DiskAt.ch {S : Nat → Prop} {b p g : Nat} {D : DS} {w w' : World} (h : DiskAt b p g D w) (hc : Ch S w w') (h1 : ¬ S p) (h2 : ¬ S g) : DiskAt b p g D w' := by
  obtain ⟨hb, cap, h3, h4⟩ := h
  refine ⟨hb, cap, (hc.block p (Array.getElem?_eq_some_iff.1 h3).1 h1).trans h3, h4.1, ?_⟩
  rcases h4.2 with hn | ⟨g', cap', cur, hv, hbg, hgg, rest⟩
  · exact .inl hn
  · cases hv
    exact .inr ⟨g, cap, cur, rfl, hbg, (hc.block g (Array.getElem?_eq_some_iff.1 hgg).1 h2).trans hgg, rest⟩
theorem DiskAt.cell {b p g : Nat} {D : DS} {w : World} (h : DiskAt b p g D w) {i : Nat} (hi : i < D.secs.length) : w.cell? ⟨g, i, none⟩ = some (.string (D.secs.getD i ⟨#[]⟩)) := by
  obtain ⟨_, cap, _, h2⟩ := h
  have := h2.cells (g := g) rfl i (.string (D.secs.getD i ⟨#[]⟩)) (by rw [List.getElem?_map, List.getD_eq_getElem?_getD, List.getElem?_eq_getElem hi]; rfl)
  have e : (⟨g, 0, none⟩ : Addr).add i = ⟨g, i, none⟩ := by unfold Addr.add; split <;> simp_all
  rwa [e] at this
theorem DiskAt.open {b p g : Nat} {D : DS} {w : World} (h : DiskAt b p g D w) : ∃ cap, w.cell? ⟨p, 0, none⟩ = some (.slice (some ⟨g, 0, none⟩) D.secs.length cap) ∧ D.secs.length ≤ cap ∧ cap ≤ maxLen ∧ w.cell? ⟨p, 1, none⟩ = some (.bool D.armed) ∧ w.cell? ⟨p, 2, none⟩ = some (.int .i64 D.left) ∧ w.cell? ⟨p, 3, none⟩ = some (.int .i64 D.keep) ∧ w.cell? ⟨p, 4, none⟩ = some (.bool D.down) ∧ (∀ k, w.frozen? ⟨p, k, none⟩ = false) ∧ ∀ k, w.frozen? ⟨g, k, none⟩ = false := by
  obtain ⟨hb, cap, h3, h4⟩ := h
  rcases h4.2 with ⟨hn, _⟩ | ⟨g', cap', cur, hv, hbg, hgg, h5, h6, _⟩
  · cases hn
  · cases hv
    exact ⟨cap, by rw [Lib.cell_of_heap h3]; rfl, h5, h6, by rw [Lib.cell_of_heap h3]; rfl, by rw [Lib.cell_of_heap h3]; rfl, by rw [Lib.cell_of_heap h3]; rfl, by rw [Lib.cell_of_heap h3]; rfl, fun k => Lib.frozen_of_heap h3 k, fun k => Lib.frozen_of_heap hgg k⟩
/-! ### the small methods -/
set_option maxRecDepth 100000 in
theorem sectors_call {b p g : Nat} {D : DS} {w : World} (h : DiskAt b p g D w) : Calls Try.prog 28 #[.pointer (some ⟨p, 0, none⟩)] w fun e w' => e = .returned (.int .i64 D.secs.length) ∧ Drawn0 w w' := by
  obtain ⟨cap, c0, hc1, hc2, c1, c2, c3, c4, f1, f2⟩ := h.open
  obtain ⟨hg, hgl, hpl, hne⟩ := h.g
  go_enter Try.func28, Try.ntmps28
  go_wp2
  go_ret
  exact ⟨rfl, Drawn0.refl _⟩
/-- Read, as the chapter says it. -/
def DS.read (D : DS) (i : Int) : ByteArray × Bool := if 0 ≤ i ∧ i < (D.secs.length : Int) then (D.secs.getD i.toNat ⟨#[]⟩, true) else (⟨#[]⟩, false)
/-- What a method turns: the disk's own blocks. -/
def Own (p g : Nat) : Nat → Prop := fun i => i = p ∨ i = g
theorem DiskAt.put {b p g : Nat} {D D' : DS} {w : World} {v : Value} {k : Nat} (h : DiskAt b p g D w) (hs : D'.secs = D.secs)
    (hv : ∀ cap, (#[.slice (some ⟨g, 0, none⟩) D.secs.length cap, .bool D.armed, .int .i64 D.left, .int .i64 D.keep, .bool D.down] : Array Value).setIfInBounds k v = #[.slice (some ⟨g, 0, none⟩) D.secs.length cap, .bool D'.armed, .int .i64 D'.left, .int .i64 D'.keep, .bool D'.down]) : DiskAt b p g D' (w.setCell ⟨p, k, none⟩ v) := by
  obtain ⟨hg, hgl, hpl, hne⟩ := h.g
  obtain ⟨hb, cap, h3, h4⟩ := h
  refine ⟨hb, cap, ?_, ?_⟩
  · rw [hs, Go.Joins.block_setCell h3, hv cap]
  · rw [hs]
    exact ownsRow_setCell_other h4 (by simp [Value.ownBlock]; omega) v
theorem DiskAt.sec {b p g : Nat} {D : DS} {w : World} {i : Nat} (h : DiskAt b p g D w) (s : ByteArray) (hi : i < D.secs.length) : DiskAt b p g { D with secs := D.secs.set i s } (w.setCell ⟨g, i, none⟩ (.string s)) := by
  obtain ⟨hg, hgl, hpl, hne⟩ := h.g
  obtain ⟨hb, cap, h3, h4⟩ := h
  refine ⟨hb, cap, ?_, ?_⟩
  · rw [Below.heap_setCell _ _ _ _ hne, h3]
    simp
  · rcases h4.2 with ⟨hn, _⟩ | ⟨g', cap', cur, hv, hbg, hgg, h5, h6, h7, h8⟩
    · cases hn
    · cases hv
      refine ⟨by simp, .inr ⟨g, cap, cur.setIfInBounds i (.string s), by simp, hbg, Go.Joins.block_setCell hgg _, by simpa using h5, h6, by simpa using h7, ?_⟩⟩
      rw [Array.toList_setIfInBounds, List.take_set, List.length_set, h8, List.map_set]
/-- A sector, whole. -/
def wholeS (s : ByteArray) : ByteArray := s ++ ⟨(List.replicate (32 - s.size) (0 : UInt8)).toArray⟩
theorem wholeS_size (s : ByteArray) (h : s.size ≤ 32) : (wholeS s).size = 32 := by
  unfold wholeS
  rw [ByteArray.size_append]
  simp only [ByteArray.size, List.size_toArray, List.length_replicate]
  have : s.data.size ≤ 32 := h
  omega
set_option maxRecDepth 100000 in
theorem whole_call (s : ByteArray) (w : World) (hs : s.size ≤ 32) : Calls Try.prog 27 #[.string s] w fun e w' => e = .returned (.string (wholeS s)) ∧ Below w.heap.size w w' := by
  obtain ⟨c, hc⟩ : ∃ c : Nat, 32 - s.size = c := ⟨_, rfl⟩
  have hr : (⟨(Lib.repeatL (⟨#[0]⟩ : ByteArray).data.toList c).toArray⟩ : ByteArray) = ⟨(List.replicate (32 - s.size) (0 : UInt8)).toArray⟩ := by
    rw [hc]
    have := Lib.repeatL_replicate 0 1 c
    simp only [Nat.mul_one] at this
    exact congrArg (fun l : List UInt8 => (⟨l.toArray⟩ : ByteArray)) this
  have hw : wholeS s = s ++ ⟨(Lib.repeatL (⟨#[0]⟩ : ByteArray).data.toList c).toArray⟩ := by rw [hr]; rfl
  have hsz := wholeS_size s hs
  rw [hw, ByteArray.size_append] at hsz
  have HR := Aside0.mk (fun W => Try.strings_Repeat ⟨#[0]⟩ c W (by omega) (by show 1 * c ≤ _; omega))
  rw [hw]
  generalize (⟨(Lib.repeatL (⟨#[0]⟩ : ByteArray).data.toList c).toArray⟩ : ByteArray) = z at HR hsz ⊢
  have hcc : 32 - (s.size : Int) = (c : Int) := by omega
  clear hr hw
  go_enter Try.func27, Try.ntmps27
  go_wp2_with (go_at_call 36;  refine (HR.out _).mono ?_; rintro e w' ⟨rfl, hb⟩; have HB := Aside0.mk hb; clear hb)
  go_ret
  exact ⟨rfl, HB.out⟩
set_option maxRecDepth 100000 in
theorem revive_call {b p g : Nat} {D : DS} {w : World} (h : DiskAt b p g D w) : Calls Try.prog 13 #[.pointer (some ⟨p, 0, none⟩)] w fun e w' => e = .returned (.tuple #[]) ∧ DiskAt b p g { D with down := false } w' ∧ Ch (Own p g) w w' := by
  obtain ⟨cap, c0, hc1, hc2, c1, c2, c3, c4, f1, f2⟩ := h.open
  obtain ⟨hg, hgl, hpl, hne⟩ := h.g
  have f4 := f1 4
  go_enter Try.func13, Try.ntmps13
  go_wp2
  refine bodyPost_end (v := .tuple #[]) (results_none rfl _ _ _) rfl ⟨rfl, h.put (D' := { D with down := false }) rfl (fun _ => rfl), (Ch.refl _ w).set _ (.inl rfl) _⟩
set_option maxRecDepth 100000 in
theorem arm_call {b p g : Nat} {D : DS} {w : World} (h : DiskAt b p g D w) (n k : Int) : Calls Try.prog 12 #[.pointer (some ⟨p, 0, none⟩), .int .i64 n, .int .i64 k] w fun e w' => e = .returned (.tuple #[]) ∧ DiskAt b p g { D with armed := true, left := max n 0, keep := max 0 (min k 32) } w' ∧ Ch (Own p g) w w' := by
  obtain ⟨cap, c0, hc1, hc2, c1, c2, c3, c4, f1, f2⟩ := h.open
  obtain ⟨hg, hgl, hpl, hne⟩ := h.g
  have f11 := f1 1
  have f12 := f1 2
  have f13 := f1 3
  go_enter Try.func12, Try.ntmps12
  go_wp2
  refine bodyPost_end (v := .tuple #[]) (results_none rfl _ _ _) rfl ⟨rfl, ((h.put (D' := { D with armed := true }) rfl (fun _ => rfl)).put (D' := { D with armed := true, left := max n 0 }) rfl (fun _ => rfl)).put (D' := { D with armed := true, left := max n 0, keep := max 0 (min k 32) }) rfl (fun _ => rfl), (((Ch.refl _ w).set _ (.inl rfl) _).set _ (.inl rfl) _).set _ (.inl rfl) _⟩
end Go.Proofs.Ytpnnnhdhmdildaa.Given
