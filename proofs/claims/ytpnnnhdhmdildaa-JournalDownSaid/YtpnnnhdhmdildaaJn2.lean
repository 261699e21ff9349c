/- The journal: the pieces of a text. -/
import Derived.Test.YtpnnnhdhmdildaaPJour2
import Derived.Test.YtpnnnhdhmdildaaIt
set_option linter.unusedVariables false
set_option linter.unusedSimpArgs false
namespace Go.Proofs.Ytpnnnhdhmdildaa.Given
open Go.RowKit Go.Proofs.YtpnnnhdhmdildaaW.PrintWords Go.Proofs.Ytpnnnhdhmdildaa.J
theorem own_ch {S : Nat → Prop} {w w' : World} {B t e n : Nat} {v : Value} {xs : List Value} (h : w.ownsRow B t e v n xs) (hc : Ch S w w') (hS : ∀ g, B ≤ g → g < w.heap.size → ¬ S g) : w'.ownsRow B t e v n xs := by
  refine ⟨h.1, ?_⟩
  rcases h.2 with hn | ⟨g', cap', cur, hv, hbg, hgg, rest⟩
  · exact .inl hn
  · exact .inr ⟨g', cap', cur, hv, hbg, (hc.block g' (Array.getElem?_eq_some_iff.1 hgg).1 (hS g' hbg (Array.getElem?_eq_some_iff.1 hgg).1)).trans hgg, rest⟩
/-- A row of texts of a walk's own. -/
structure OwnP (w : World) (v : Value) (ps : List ByteArray) (W : World) : Prop where
  row : W.ownsRow w.heap.size 9 1 v ps.length (ps.map Value.string)
  below : Below w.heap.size w W
theorem OwnP.step {w : World} {v : Value} {ps : List ByteArray} {W W' : World} (h : OwnP w v ps W) (hb : Below W.heap.size W W') : OwnP w v ps W' :=
  ⟨own_ch h.row (S := fun _ => False) (Ch.of_new hb) (fun _ _ _ h => h), h.below.trans (hb.mono h.below.size)⟩
theorem OwnP.app {w w2 : World} {v v' : Value} {ps : List ByteArray} {p : ByteArray} {W : World} {o : Obj} {row : Option Nat} (h : OwnP w v ps W) (hown : w2.ownsRow w.heap.size 9 1 v' (ps.length + 1) (ps.map Value.string ++ [.string p])) (hg : (W.alloc o).grownBy w2 row) (hr : ∀ k, row = some k → w.heap.size ≤ k) : OwnP w v' (ps ++ [p]) w2 := by
  refine ⟨by simpa using hown, ?_⟩
  exact (h.below.alloc h.below.size _).grown hg (by rw [World.size_alloc]; have := h.below.size; omega) hr
def szOf : Value → Nat
  | .string s => s.size
  | _ => 0
set_option maxRecDepth 100000 in
set_option maxHeartbeats 2000000 in
theorem pieces_call (PC : ∀ (s : ByteArray) (m : Nat) (w : World), s.size ≤ 30 → m ≤ 255 → Calls Try.prog 30 #[.string s, .int .u8 (m : Int)] w fun e w' => e = .returned (.string (pieceS s (UInt8.ofNat m))) ∧ Below w.heap.size w w') (s0 : ByteArray) (w : World) (hs0 : s0.size ≤ 1000000) :
    Calls Try.prog 16 #[.string s0] w fun e w' => ∃ v, e = .returned v ∧ OwnP w v (piecesL s0) w' := by
  obtain ⟨i0, hi, hz0, hz1, hz2⟩ : ∃ i0, Try.prog.info? 9 = some i0 ∧ i0.zero = some (.string ⟨#[]⟩) ∧ i0.size = 1 ∧ i0.bytes = 16 := by
    have h := info9
    cases hh : Try.prog.info? 9 with
    | none => rw [hh] at h; cases h
    | some i => rw [hh] at h; simp at h; exact ⟨i, rfl, h.1, h.2.1, h.2.2⟩
  have P1 := Aside0.mk (fun (s : ByteArray) (w : World) (h : s.size ≤ 30) => (PC s 1 w h (by decide)).mono (fun e w' h => (⟨pieceS s 1, h.1, ⟨rfl⟩, h.2⟩ : ∃ p : ByteArray, e = .returned (.string p) ∧ Aside0 (p = pieceS s 1) ∧ Below w.heap.size w w')))
  have P2 := Aside0.mk (fun (s : ByteArray) (w : World) (h : s.size ≤ 30) => (PC s 2 w h (by decide)).mono (fun e w' h => (⟨pieceS s 2, h.1, ⟨rfl⟩, h.2⟩ : ∃ p : ByteArray, e = .returned (.string p) ∧ Aside0 (p = pieceS s 2) ∧ Below w.heap.size w w')))
  clear PC
  go_enter Try.func16, Try.ntmps16
  go_wp2
  go_loopw [0, 3] (fun v0 v3 wr => ∃ (s : ByteArray) (ps : List ByteArray) (v : Value), v0 = .string s ∧ v3 = v ∧ Aside0 (piecesL s0 = ps ++ piecesL s) ∧ ps.length * 30 + s.size ≤ s0.size ∧ Aside0 (OwnP w v ps wr)) (fun v _ _ => szOf v)
  case atStart => exact ⟨s0, [], _, rfl, rfl, ⟨rfl⟩, by simp, ⟨World.ownsRow_nil _ _ _ _, Below.refl _ _⟩⟩
  case round =>
    obtain ⟨s, ps, v3, rfl, hv, HP, hle, HO⟩ := hrel
    have hv' := hv.symm
    clear hv
    subst hv'
    have hown0 := HO.out.row
    by_cases hlt : 30 < s.size
    · have h30 : (s.extract 0 30).size ≤ 30 := by rw [ByteArray.size_extract]; omega
      have hd : decide ((30 : Int) < (s.size : Int)) = true := decide_eq_true (by omega)
      clear hown0
      go_wp2_with (first
        | (go_at_call 30; refine (P1.out _ _ h30).mono ?_; rintro e wp ⟨p, rfl, hp, bp⟩; have O1 := Aside0.mk (HO.out.step bp); have hown := O1.out.row; have hbs := O1.out.below.size; clear bp)
        | (at_builtin; refine wpList_append_own _ rfl _ _ 30 rfl w.heap.size 9 i0 (.string ⟨#[]⟩) 1 16 Try.underlying30 hi hz0 hz1 hz2 rfl (by decide) v3 ps.length _ rfl (hown.alloc _) ⟨wp.heap.size, 0, none⟩ 1 1 [.string p] rfl rfl (cell_one_new _ _ _) (by intro u hu; simp at hu; subst hu; rfl) (by unfold maxLen; omega) (by omega) (by simp; omega) ?_; intro v' w1 hown' hgrow _; have O2 := Aside0.mk (OwnP.app O1.out hown' hgrow (fun k hk => (O1.out.row.lt k hk).1)); clear hown' hgrow))
      go_roundw
      case rel => exact ⟨s.extract 30 s.size, ps ++ [p], _, rfl, rfl, ⟨by rw [HP.out, pieces_long hlt, List.append_assoc, hp.out]; rfl⟩, by rw [List.length_append, ByteArray.size_extract]; simp; omega, O2⟩
      case measure => simp only [szOf, ByteArray.size_extract]; omega
    · have hd : decide ((30 : Int) < (s.size : Int)) = false := decide_eq_false (by omega)
      have h30 : s.size ≤ 30 := by omega
      clear hown0
      go_wp2_with (first
        | (go_at_call 30; refine (P2.out _ _ h30).mono ?_; rintro e wp ⟨p, rfl, hp, bp⟩; have O1 := Aside0.mk (HO.out.step bp); have hown := O1.out.row; have hbs := O1.out.below.size; clear bp)
        | (at_builtin; refine wpList_append_own _ rfl _ _ 30 rfl w.heap.size 9 i0 (.string ⟨#[]⟩) 1 16 Try.underlying30 hi hz0 hz1 hz2 rfl (by decide) v3 ps.length _ rfl (hown.alloc _) ⟨wp.heap.size, 0, none⟩ 1 1 [.string p] rfl rfl (cell_one_new _ _ _) (by intro u hu; simp at hu; subst hu; rfl) (by unfold maxLen; omega) (by omega) (by simp; omega) ?_; intro v' w1 hown' hgrow _; have O2 := Aside0.mk (OwnP.app O1.out hown' hgrow (fun k hk => (O1.out.row.lt k hk).1)); clear hown' hgrow))
      go_ret
      exact ⟨_, rfl, by rw [HP.out, pieces_short h30, ← hp.out]; exact O2.out⟩
end Go.Proofs.Ytpnnnhdhmdildaa.Given
