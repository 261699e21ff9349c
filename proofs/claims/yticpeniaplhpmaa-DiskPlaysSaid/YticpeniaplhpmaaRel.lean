/- The disk and the document's own, side by side. -/
import Derived.Test.YticpeniaplhpmaaRf2
set_option linter.unusedVariables false
set_option linter.unusedSimpArgs false
namespace Go.Proofs.Yticpeniaplhpmaa.Given
open Go.RowKit Go.Proofs.YticpeniaplhpmaaW.PrintWords
structure Rel (D : DS) (R : RS) : Prop where
  secs : R.secs = D.secs
  down : R.down = D.down
  arm : (D.armed = true ∧ R.left = D.left ∧ 0 ≤ D.left ∧ R.keep = D.keep) ∨ (D.armed = false ∧ R.left = -1)
theorem rel_write {D : DS} {R : RS} (h : Rel D R) (i : Int) (data : ByteArray) : (R.write i data).1 = (D.write i data).1 ∧ Rel (D.write i data).2 (R.write i data).2 := by
  obtain ⟨h1, h2, h3⟩ := h
  have hf : R.fits i data ↔ D.fits i data := by unfold RS.fits DS.fits; rw [h1, h2]
  unfold DS.write RS.write
  by_cases f : D.fits i data
  · rw [if_pos f, if_pos (hf.2 f)]
    rcases h3 with ⟨a, b, c, d⟩ | ⟨a, b⟩
    · by_cases hl : D.left = 0
      · rw [if_pos (b.trans hl), if_pos ⟨a, hl⟩, h1, d]
        exact ⟨rfl, rfl, rfl, .inr ⟨rfl, rfl⟩⟩
      · rw [if_neg (by rw [b]; exact hl : ¬ R.left = 0), if_neg (fun x => hl x.2 : ¬ (D.armed = true ∧ D.left = 0)), h1]
        refine ⟨rfl, rfl, h2, .inl ⟨a, ?_, ?_, d⟩⟩
        · show (if 0 < R.left then R.left - 1 else R.left) = D.left - 1
          rw [b, if_pos (by omega)]
        · show 0 ≤ D.left - 1
          omega
    · rw [if_neg (by rw [b]; decide : ¬ R.left = 0), if_neg (fun x => by rw [a] at x; cases x.1 : ¬ (D.armed = true ∧ D.left = 0)), h1]
      refine ⟨rfl, rfl, h2, .inr ⟨a, ?_⟩⟩
      show (if 0 < R.left then R.left - 1 else R.left) = -1
      rw [b]
      rfl
  · rw [if_neg f, if_neg (fun x => f (hf.1 x))]
    exact ⟨rfl, h1, h2, h3⟩
def RS.arm (R : RS) (n k : Int) : RS := { R with left := max n 0, keep := min (max k 0) 32 }
def RS.revive (R : RS) : RS := { R with down := false }
theorem rel_arm {D : DS} {R : RS} (h : Rel D R) (n k : Int) : Rel (D.arm n k) (R.arm n k) :=
  ⟨h.secs, h.down, .inl ⟨rfl, rfl, by show 0 ≤ max n 0; omega, by show min (max k 0) 32 = max 0 (min k 32); omega⟩⟩
theorem rel_revive {D : DS} {R : RS} (h : Rel D R) : Rel D.revive R.revive := ⟨h.secs, rfl, h.arm⟩
theorem rwrite_ok {R : RS} (hR : R.Ok) (i : Int) (data : ByteArray) : (R.write i data).2.Ok := by
  unfold RS.write
  by_cases hf : R.fits i data
  · rw [if_pos hf]
    obtain ⟨_, h1, h2, h3⟩ := hf
    have hw := wholeS_size data h3
    have hk : i.toNat < R.secs.length := by omega
    have hg : (R.secs.getD i.toNat ⟨#[]⟩).size = 32 := by
      rw [List.getD_eq_getElem?_getD, List.getElem?_eq_getElem hk]
      exact hR.size _ (List.getElem_mem hk)
    have k0 := hR.keep0
    have k1 := hR.keep1
    have l0 := hR.left0
    have l1 := hR.left1
    split
    · refine ⟨by simpa using hR.one, by simpa using hR.most, fun s hs => ?_, hR.keep0, hR.keep1, by show (-1 : Int) ≤ -1; omega, by show (-1 : Int) ≤ 9223372036854775807; omega⟩
      rcases List.mem_or_eq_of_mem_set hs with hs | rfl
      · exact hR.size s hs
      · rw [ByteArray.size_append, ByteArray.size_extract, ByteArray.size_extract, hw, hg]
        omega
    · refine ⟨by simpa using hR.one, by simpa using hR.most, fun s hs => ?_, hR.keep0, hR.keep1, ?_, ?_⟩
      · rcases List.mem_or_eq_of_mem_set hs with hs | rfl
        · exact hR.size s hs
        · exact hw
      · show -1 ≤ (if 0 < R.left then R.left - 1 else R.left)
        split <;> omega
      · show (if 0 < R.left then R.left - 1 else R.left) ≤ 9223372036854775807
        split <;> omega
  · rw [if_neg hf]
    exact hR
theorem rarm_ok {R : RS} (hR : R.Ok) (n k : Int) (hn : n ≤ 9223372036854775807) : (R.arm n k).Ok :=
  ⟨hR.one, hR.most, hR.size, by show 0 ≤ min (max k 0) 32; omega, by show min (max k 0) 32 ≤ 32; omega, by show -1 ≤ max n 0; omega, by show max n 0 ≤ 9223372036854775807; omega⟩
theorem rrevive_ok {R : RS} (hR : R.Ok) : R.revive.Ok := ⟨hR.one, hR.most, hR.size, hR.keep0, hR.keep1, hR.left0, hR.left1⟩
/-- How far a disk's count has gone below nought. -/
theorem write_left {D : DS} (i : Int) (data : ByteArray) (c : Int) (h : -c ≤ D.left) (hc : 0 ≤ c) : -(c + 1) ≤ (D.write i data).2.left := by
  unfold DS.write
  split
  · split
    · show -(c + 1) ≤ D.left
      omega
    · show -(c + 1) ≤ D.left - 1
      omega
  · show -(c + 1) ≤ D.left
    omega
theorem rel_new (k : Nat) : Rel (newD k) ⟨List.replicate k (wholeS ⟨#[]⟩), -1, 0, false⟩ := ⟨rfl, rfl, .inr ⟨rfl, rfl⟩⟩
end Go.Proofs.Yticpeniaplhpmaa.Given
