/- The disk's Write. -/
import Derived.Test.YtpnnnhdhmdildaaDk1
set_option linter.unusedVariables false
set_option linter.unusedSimpArgs false
namespace Go.Proofs.Ytpnnnhdhmdildaa.Given
open Go.RowKit Go.Proofs.YtpnnnhdhmdildaaW.PrintWords
/-- Is a write a write? -/
def DS.fits (D : DS) (i : Int) (data : ByteArray) : Prop := D.down = false ∧ 0 ≤ i ∧ i < (D.secs.length : Int) ∧ data.size ≤ 32
instance (D : DS) (i : Int) (data : ByteArray) : Decidable (D.fits i data) := by unfold DS.fits; infer_instance
/-- Write, as the chapter says it. -/
def DS.write (D : DS) (i : Int) (data : ByteArray) : Bool × DS :=
  if D.fits i data then
    if D.armed = true ∧ D.left = 0 then
      (false, { D with secs := D.secs.set i.toNat ((wholeS data).extract 0 D.keep.toNat ++ (D.secs.getD i.toNat ⟨#[]⟩).extract D.keep.toNat 32), armed := false, down := true })
    else (true, { D with secs := D.secs.set i.toNat (wholeS data), left := D.left - 1 })
  else (false, D)
def WritePost (b p g : Nat) (D : DS) (i : Int) (data : ByteArray) (w : World) (e : Ending) (w' : World) : Prop :=
  e = .returned (.bool (D.write i data).1) ∧ DiskAt b p g (D.write i data).2 w' ∧ Ch (Own p g) w w'
set_option maxRecDepth 100000 in
set_option maxHeartbeats 1000000 in
theorem write_no {b p g : Nat} {D : DS} {w : World} (h : DiskAt b p g D w) (hD : D.Ok) (i : Int) (data : ByteArray) (hi : (Lit.int .i64 i).wf = true) (hs : data.size ≤ 9223372036854775807) (hn : ¬ D.fits i data) :
    Calls Try.prog 29 #[.pointer (some ⟨p, 0, none⟩), .int .i64 i, .string data] w (WritePost b p g D i data w) := by
  have hr : D.write i data = (false, D) := if_neg hn
  unfold WritePost
  rw [hr]
  obtain ⟨cap, c0, hc1, hc2, c1, c2, c3, c4, f1, f2⟩ := h.open
  obtain ⟨hg, hgl, hpl, hne⟩ := h.g
  have hm := hD.most
  have HA := Aside0.mk h
  unfold DS.fits at hn
  clear h
  have hd : D.down = true ∨ (D.down = false ∧ (i < 0 ∨ (0 ≤ i ∧ (D.secs.length : Int) ≤ i) ∨ (0 ≤ i ∧ i < (D.secs.length : Int) ∧ 32 < data.size))) := by
    cases hh : D.down with
    | true => exact .inl rfl
    | false =>
      rw [hh] at hn
      simp only [true_and, not_and] at hn
      refine .inr ⟨rfl, ?_⟩
      by_cases h1 : 0 ≤ i
      · by_cases h2 : i < (D.secs.length : Int)
        · have := hn h1 h2; exact .inr (.inr ⟨h1, h2, by omega⟩)
        · exact .inr (.inl ⟨h1, by omega⟩)
      · exact .inl (by omega)
  clear hn hr
  rcases hd with hd | ⟨hd, h1 | ⟨h1, h2⟩ | ⟨h1, h2, h3⟩⟩
  all_goals
    rw [hd] at c4
    go_enter Try.func29, Try.ntmps29
    go_wp2
    go_ret
    exact ⟨rfl, HA.out, Ch.refl _ _⟩
set_option maxRecDepth 100000 in
set_option maxHeartbeats 2000000 in
theorem write_yes {b p g : Nat} {D : DS} {w : World} (h : DiskAt b p g D w) (hD : D.Ok) (i : Int) (data : ByteArray) (hf : D.fits i data) :
    Calls Try.prog 29 #[.pointer (some ⟨p, 0, none⟩), .int .i64 i, .string data] w (WritePost b p g D i data w) := by
  obtain ⟨hd, h1, h2, h3⟩ := id hf
  obtain ⟨k, rfl⟩ : ∃ k : Nat, i = k := ⟨i.toNat, by omega⟩
  have hk : k < D.secs.length := by omega
  have hws := wholeS_size data h3
  have hos : (D.secs.getD k ⟨#[]⟩).size = 32 := by
    rw [List.getD_eq_getElem?_getD, List.getElem?_eq_getElem hk]
    exact hD.size _ (List.getElem_mem hk)
  obtain ⟨kp, hkp⟩ : ∃ kp : Nat, D.keep = kp := ⟨D.keep.toNat, by have := hD.keep0; omega⟩
  have hkp2 : kp ≤ 32 := by have := hD.keep1; omega
  have hr : D.write k data = if D.armed = true ∧ D.left = 0 then
      (false, { D with secs := D.secs.set k ((wholeS data).extract 0 kp ++ (D.secs.getD k ⟨#[]⟩).extract kp 32), armed := false, down := true })
    else (true, { D with secs := D.secs.set k (wholeS data), left := D.left - 1 }) := by
    unfold DS.write
    rw [if_pos hf, Int.toNat_natCast, hkp, Int.toNat_natCast]
  obtain ⟨cap, c0, hc1, hc2, c1, c2, c3, c4, f1, f2⟩ := h.open
  obtain ⟨hg, hgl, hpl, hne⟩ := h.g
  have hm := hD.most
  have hl0 := hD.left0
  have hl1 := hD.left1
  rw [hd] at c4
  have WH := Aside0.mk (fun W => whole_call data W h3)
  unfold WritePost
  generalize wholeS data = s at WH hws hr
  have hso : ∃ so, D.secs.getD k ⟨#[]⟩ = so := ⟨_, rfl⟩
  obtain ⟨so, hso⟩ := hso
  rw [hso] at hos hr
  have HA := Aside0.mk h
  clear h hf
  by_cases ht : D.armed = true ∧ D.left = 0
  · rw [if_pos ht] at hr
    rw [hr]
    clear hr
    obtain ⟨ha, hl⟩ := ht
    go_enter Try.func29, Try.ntmps29
    go_wp2_with (go_at_call 27; refine (WH.out _).mono ?_; rintro e w1 ⟨rfl, hb⟩; have HB := Aside0.mk (show Ch (Own p g) w w1 from Ch.of_new hb); have HA1 := Aside0.mk (HA.out.ch (S := fun _ => False) (Ch.of_new hb) id id); clear hb HA c0 c1 c2 c3 c4 f1 f2 hgl hpl hg hc1 hc2; obtain ⟨cap1, c0, hc1, hc2, c1, c2, c3, c4, f1, f2⟩ := HA1.out.open; obtain ⟨hg, hgl, hpl, hne⟩ := HA1.out.g; rw [ha] at c1; rw [hl] at c2; rw [hkp] at c3; have fg := f2 k; have fp := f1 1; have fp4 := f1 4; have c5 := HA1.out.cell hk; rw [hso] at c5)
    have k1 : (kp : Int) ≤ 32 := by omega
    go_still_tail 25, (by kernel_rfl)
    change wpList _ _ _ _ _ w1.drew
    have d5 : w1.drew.cell? ⟨g, k, none⟩ = some (.string so) := c5
    have dg : w1.drew.frozen? ⟨g, k, none⟩ = false := fg
    have HA2 := Aside0.mk (show DiskAt b p g D w1.drew from HA1.out)
    have HB2 := Aside0.mk (show Ch (Own p g) w w1.drew from HB.out.trans (Ch.of_drawn ⟨⟨1, rfl⟩⟩))
    have hl2 : g < w1.drew.heap.size := hgl
    have hl3 : p < w1.drew.heap.size := hpl
    have e1 : w1.drew.cell? ⟨p, 1, none⟩ = some (.bool true) := c1
    have e4 : w1.drew.cell? ⟨p, 4, none⟩ = some (.bool D.down) := c4
    have g1 : w1.drew.frozen? ⟨p, 1, none⟩ = false := fp
    have g4 : w1.drew.frozen? ⟨p, 4, none⟩ = false := fp4
    clear c0 c1 c2 c3 c4 c5 f1 f2 fg fp fp4 HA1 HB hgl hpl
    generalize w1.drew = w2 at *
    go_wp2
    go_ret
    exact ⟨rfl, ((HA2.out.sec (s.extract 0 kp ++ so.extract kp 32) hk).put (D' := { D with secs := D.secs.set k (s.extract 0 kp ++ so.extract kp 32), down := true }) rfl (fun _ => rfl)).put (D' := { D with secs := D.secs.set k (s.extract 0 kp ++ so.extract kp 32), down := true, armed := false }) rfl (fun _ => rfl),
      ((HB2.out.set _ (.inr rfl) _).set _ (.inl rfl) _).set _ (.inl rfl) _⟩
  · rw [if_neg ht] at hr
    rw [hr]
    clear hr
    have hor : D.armed = false ∨ (D.armed = true ∧ D.left ≠ 0) := by
      cases ha : D.armed with
      | false => exact .inl rfl
      | true => exact .inr ⟨rfl, fun e => ht ⟨ha, e⟩⟩
    clear ht
    rcases hor with ha | ⟨ha, hl⟩
    all_goals
      go_enter Try.func29, Try.ntmps29
      go_wp2_with (go_at_call 27; refine (WH.out _).mono ?_; rintro e w1 ⟨rfl, hb⟩; have HB := Aside0.mk (show Ch (Own p g) w w1 from Ch.of_new hb); have HA1 := Aside0.mk (HA.out.ch (S := fun _ => False) (Ch.of_new hb) id id); clear hb HA c0 c1 c2 c3 c4 f1 f2 hgl hpl hg hc1 hc2; obtain ⟨cap1, c0, hc1, hc2, c1, c2, c3, c4, f1, f2⟩ := HA1.out.open; obtain ⟨hg, hgl, hpl, hne⟩ := HA1.out.g; rw [ha] at c1; have fg := f2 k; have fp := f1 2; have c5 := HA1.out.cell hk)
      go_ret
      exact ⟨rfl, (HA1.out.sec s hk).put (D' := { D with secs := D.secs.set k s, left := D.left - 1 }) rfl (fun _ => rfl), (HB.out.set _ (.inr rfl) _).set _ (.inl rfl) _⟩
theorem write_call {b p g : Nat} {D : DS} {w : World} (h : DiskAt b p g D w) (hD : D.Ok) (i : Int) (data : ByteArray) (hi : (Lit.int .i64 i).wf = true) (hs : data.size ≤ 9223372036854775807) :
    Calls Try.prog 29 #[.pointer (some ⟨p, 0, none⟩), .int .i64 i, .string data] w fun e w' => e = .returned (.bool (D.write i data).1) ∧ DiskAt b p g (D.write i data).2 w' ∧ Ch (Own p g) w w' := by
  by_cases hf : D.fits i data
  · exact write_yes h hD i data hf
  · exact write_no h hD i data hi hs hf
end Go.Proofs.Ytpnnnhdhmdildaa.Given
