/- Chapter 5's closed sentence: a disk of two sectors, a write that goes well, one that is torn. No condition. -/
import Derived.Test.YticpeniaplhpmaaDk3
set_option linter.unusedVariables false
set_option linter.unusedSimpArgs false
namespace Go.Proofs.Yticpeniaplhpmaa.Given
open Go.RowKit Go.Proofs.YticpeniaplhpmaaW.PrintWords
theorem write_ok {D : DS} (hD : D.Ok) (hl : -4611686018427387904 < D.left) (i : Int) (data : ByteArray) : (D.write i data).2.Ok := by
  unfold DS.write
  by_cases hf : D.fits i data
  · rw [if_pos hf]
    obtain ⟨_, h1, h2, h3⟩ := hf
    have hw := wholeS_size data h3
    have hk : i.toNat < D.secs.length := by omega
    have hg : (D.secs.getD i.toNat ⟨#[]⟩).size = 32 := by
      rw [List.getD_eq_getElem?_getD, List.getElem?_eq_getElem hk]
      exact hD.size _ (List.getElem_mem hk)
    have k0 := hD.keep0
    have k1 := hD.keep1
    have l1 := hD.left1
    split
    · refine ⟨by simpa using hD.one, by simpa using hD.most, fun s hs => ?_, hD.keep0, hD.keep1, hD.left0, hD.left1⟩
      rcases List.mem_or_eq_of_mem_set hs with hs | rfl
      · exact hD.size s hs
      · rw [ByteArray.size_append, ByteArray.size_extract, ByteArray.size_extract, hw, hg]
        omega
    · refine ⟨by simpa using hD.one, by simpa using hD.most, fun s hs => ?_, hD.keep0, hD.keep1, ?_, ?_⟩
      · rcases List.mem_or_eq_of_mem_set hs with hs | rfl
        · exact hD.size s hs
        · exact hw
      · show -4611686018427387904 ≤ D.left - 1
        omega
      · show D.left - 1 ≤ 9223372036854775807
        omega
  · rw [if_neg hf]
    exact hD
def DS.arm (D : DS) (n k : Int) : DS := { D with armed := true, left := max n 0, keep := max 0 (min k 32) }
def DS.revive (D : DS) : DS := { D with down := false }
theorem arm_ok {D : DS} (hD : D.Ok) (n k : Int) (hn : n ≤ 9223372036854775807) : (D.arm n k).Ok :=
  ⟨hD.one, hD.most, hD.size, by show (0 : Int) ≤ max 0 (min k 32); omega, by show max 0 (min k 32) ≤ (32 : Int); omega, by show (-4611686018427387904 : Int) ≤ max n 0; omega, by show max n 0 ≤ (9223372036854775807 : Int); omega⟩
theorem revive_ok {D : DS} (hD : D.Ok) : D.revive.Ok := ⟨hD.one, hD.most, hD.size, hD.keep0, hD.keep1, hD.left0, hD.left1⟩
/-- A disk of a walk's own: it lies there; what lay stays. -/
structure DW (w : World) (b p g : Nat) (D : DS) (W : World) : Prop where
  disk : DiskAt b p g D W
  below : Below b w W
theorem DW.ch {w : World} {b p g : Nat} {D D' : DS} {W W' : World} (h : DW w b p g D W) (hb : b ≤ w.heap.size) (h' : DiskAt b p g D' W') (hc : Ch (Own p g) W W') : DW w b p g D' W' :=
  ⟨h', hc.below h.2 hb fun i hi => by rcases hi with rfl | rfl; exact h.1.1; exact h.1.g.1⟩
theorem DW.step {w : World} {b p g : Nat} {D : DS} {W W' : World} (h : DW w b p g D W) (hb : b ≤ w.heap.size) (hc : Below W.heap.size W W') : DW w b p g D W' :=
  ⟨h.1.ch (S := fun _ => False) (Ch.of_new hc) id id, h.2.trans (hc.mono (Nat.le_trans hb h.2.size))⟩
/-- The steps of the sentence. -/
def R1 : DS := (newD 2).arm 1 2
def R2 : DS := (R1.write 0 ⟨#[97, 98, 99]⟩).2
def R3 : DS := (R2.write 0 ⟨#[120, 121, 122]⟩).2
def R4 : ByteArray := (R3.read 0).1
theorem r1 : (R1.write 0 ⟨#[97, 98, 99]⟩).1 = true := by kernel_rfl
theorem r2 : (R2.write 0 ⟨#[120, 121, 122]⟩).1 = false := by kernel_rfl
theorem r3 : (R3.read 0).2 = true := by kernel_rfl
theorem r4 : R4.size = 32 := by kernel_rfl
theorem r5 : R4.extract 0 3 = ⟨#[120, 121, 99]⟩ := by kernel_rfl
theorem r6 : R3.down = true := by kernel_rfl
theorem r7 : R3.secs.length = 2 := by kernel_rfl
theorem o1 : R1.Ok := arm_ok (newD_ok 2 (by decide) (by decide)) _ _ (by decide)
theorem l1 : R1.left = 1 := by kernel_rfl
theorem l2 : R2.left = 0 := by kernel_rfl
theorem o2 : R2.Ok := write_ok o1 (by rw [l1]; decide) _ _
theorem o3 : R3.Ok := write_ok o2 (by rw [l2]; decide) _ _
theorem w1_call {b p g : Nat} {w : World} (h : DiskAt b p g R1 w) : Calls Try.prog 9 #[.pointer (some ⟨p, 0, none⟩), .int .i64 0, .string ⟨#[97, 98, 99]⟩] w fun e w' => e = .returned (.bool true) ∧ DiskAt b p g R2 w' ∧ Ch (Own p g) w w' :=
  (write_call h o1 0 _ rfl (by decide)).mono fun e w' h => by rw [r1] at h; exact h
theorem w2_call {b p g : Nat} {w : World} (h : DiskAt b p g R2 w) : Calls Try.prog 9 #[.pointer (some ⟨p, 0, none⟩), .int .i64 0, .string ⟨#[120, 121, 122]⟩] w fun e w' => e = .returned (.bool false) ∧ DiskAt b p g R3 w' ∧ Ch (Own p g) w w' :=
  (write_call h o2 0 _ rfl (by decide)).mono fun e w' h => by rw [r2] at h; exact h
theorem rd_call {b p g : Nat} {w : World} (h : DiskAt b p g R3 w) : Calls Try.prog 10 #[.pointer (some ⟨p, 0, none⟩), .int .i64 0] w fun e w' => e = .returned (.tuple #[.string R4, .bool true]) ∧ Drawn0 w w' :=
  (read_call h o3 0).mono fun e w' h => by rw [r3] at h; exact h
theorem dn_call {b p g : Nat} {w : World} (h : DiskAt b p g R3 w) : Calls Try.prog 11 #[.pointer (some ⟨p, 0, none⟩)] w fun e w' => e = .returned (.bool true) ∧ Drawn0 w w' :=
  (down_call h).mono fun e w' h => by rw [r6] at h; exact h
theorem sc_call {b p g : Nat} {w : World} (h : DiskAt b p g R3 w) : Calls Try.prog 12 #[.pointer (some ⟨p, 0, none⟩)] w fun e w' => e = .returned (.int .i64 2) ∧ Drawn0 w w' :=
  (sectors_call h).mono fun e w' h => by rw [r7] at h; exact h
set_option maxRecDepth 100000 in
set_option maxHeartbeats 2000000 in
theorem runs_walk (w : World) : Calls Try.prog 3 #[] w fun e w' => e = .returned (.bool true) ∧ Below w.heap.size w w' := by
  have hx := r4
  have hy := r5
  go_enter Try.func3, Try.ntmps3
  go_wp2_with (first
    | (go_at_call 7; refine (new_call 2 2 _ (by decide)).mono ?_; rintro e w1 ⟨p, g, rfl, h1, h2⟩; have DA := Aside0.mk (show DW w w.heap.size p g (newD 2) w1 from ⟨h1, h2⟩); clear h1 h2)
    | (go_at_call 8; refine (arm_call DA.out.1 1 2).mono ?_; rintro e w2 ⟨rfl, h1, h2⟩; have DB := Aside0.mk (show DW w w.heap.size p g R1 w2 from DA.out.ch (Nat.le_refl _) h1 h2); clear h1 h2 DA)
    | (go_at_call 9; (with_reducible refine (w1_call DB.out.1).mono ?_); rintro e w3 ⟨rfl, h1, h2⟩; have DC := Aside0.mk (DB.out.ch (Nat.le_refl _) h1 h2); clear h1 h2 DB)
    | (go_at_call 9; (with_reducible refine (w2_call DC.out.1).mono ?_); rintro e w4 ⟨rfl, h1, h2⟩; have DD := Aside0.mk (DC.out.ch (Nat.le_refl _) h1 h2); clear h1 h2 DC)
    | (go_at_call 10; refine (rd_call DD.out.1).mono ?_; rintro e w5 ⟨rfl, h1⟩; have DD := Aside0.mk (DD.out.step (Nat.le_refl _) h1.below); clear h1)
    | (go_at_call 11; refine (dn_call DD.out.1).mono ?_; rintro e w6 ⟨rfl, h1⟩; have DD := Aside0.mk (DD.out.step (Nat.le_refl _) h1.below); clear h1)
    | (go_at_call 12; refine (sc_call DD.out.1).mono ?_; rintro e w7 ⟨rfl, h1⟩; have DD := Aside0.mk (DD.out.step (Nat.le_refl _) h1.below); clear h1))
  go_ret
  exact ⟨rfl, DD.out.below⟩
end Go.Proofs.Yticpeniaplhpmaa.Given
