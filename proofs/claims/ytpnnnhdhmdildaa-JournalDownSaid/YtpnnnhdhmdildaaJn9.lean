/- The journal: Open. -/
import Derived.Test.YtpnnnhdhmdildaaJn8
import Derived.Test.YtpnnnhdhmdildaaRD
set_option linter.unusedVariables false
set_option linter.unusedSimpArgs false
namespace Go.Proofs.Ytpnnnhdhmdildaa.Given
open Go.RowKit Go.Proofs.YtpnnnhdhmdildaaW.PrintWords Go.Proofs.Ytpnnnhdhmdildaa.J Go.Proofs.Ytpnnnhdhmdildaa.RF
attribute [local go_sem] Oper.semAt_some
/-- What Open leaves. -/
def OpenPost (b p g : Nat) (D : DS) (w : World) (e : Ending) (w' : World) : Prop :=
  ∃ q v, e = .returned (.pointer (some ⟨q, 0, none⟩)) ∧ JD b q p g v (JS.open D) D w' ∧ Below w.heap.size w w' ∧ w.heap.size ≤ q ∧ ∀ x, v.ownBlock = some x → w.heap.size ≤ x
/-- At Open's start. -/
theorem op_start {b p g : Nat} {D : DS} {w : World} (h : DiskAt b p g D w) (hb : b ≤ w.heap.size) :
    OpS w b p g w.heap.size D (.slice none 0 0) [] 0 ⟨#[]⟩ (((w.alloc (.cells #[.pointer (some ⟨p, 0, none⟩), .slice none 0 0, .int .i64 0, .bool false] 62)).alloc (.cells #[.pointer (some ⟨w.heap.size, 0, none⟩)] 24)).alloc (.cells #[.string ⟨#[]⟩] 9)) := by
  have hg := h.g
  have l1 := World.alloc_heap_new w (.cells #[.pointer (some ⟨p, 0, none⟩), .slice none 0 0, .int .i64 0, .bool false] 62)
  have b1 : Below w.heap.size w (((w.alloc (.cells #[.pointer (some ⟨p, 0, none⟩), .slice none 0 0, .int .i64 0, .bool false] 62)).alloc (.cells #[.pointer (some ⟨w.heap.size, 0, none⟩)] 24)).alloc (.cells #[.string ⟨#[]⟩] 9)) := balloc _ (balloc _ (balloc _ (Below.refl _ _) (Nat.le_refl _)) (Nat.le_refl _)) (Nat.le_refl _)
  have k1 : (((w.alloc (.cells #[.pointer (some ⟨p, 0, none⟩), .slice none 0 0, .int .i64 0, .bool false] 62)).alloc (.cells #[.pointer (some ⟨w.heap.size, 0, none⟩)] 24)).alloc (.cells #[.string ⟨#[]⟩] 9)).heap[w.heap.size]? = some (.cells #[.pointer (some ⟨p, 0, none⟩), .slice none 0 0, .int .i64 0, .bool false] 62 (0, 0)) :=
    (Below.heap_alloc _ _ _ (by simp only [World.size_alloc]; omega)).trans ((Below.heap_alloc _ _ _ (by simp only [World.size_alloc]; omega)).trans l1)
  have l2 : Boxed ((w.alloc (.cells #[.pointer (some ⟨p, 0, none⟩), .slice none 0 0, .int .i64 0, .bool false] 62)).alloc (.cells #[.pointer (some ⟨w.heap.size, 0, none⟩)] 24)) (w.heap.size + 1) 24 (.pointer (some ⟨w.heap.size, 0, none⟩)) := by
    have := Boxed.new (w.alloc (.cells #[.pointer (some ⟨p, 0, none⟩), .slice none 0 0, .int .i64 0, .bool false] 62)) 24 (.pointer (some ⟨w.heap.size, 0, none⟩))
    rwa [World.size_alloc] at this
  have l3 : Boxed (((w.alloc (.cells #[.pointer (some ⟨p, 0, none⟩), .slice none 0 0, .int .i64 0, .bool false] 62)).alloc (.cells #[.pointer (some ⟨w.heap.size, 0, none⟩)] 24)).alloc (.cells #[.string ⟨#[]⟩] 9)) (w.heap.size + 1 + 1) 9 (.string ⟨#[]⟩) := by
    have := Boxed.new ((w.alloc (.cells #[.pointer (some ⟨p, 0, none⟩), .slice none 0 0, .int .i64 0, .bool false] 62)).alloc (.cells #[.pointer (some ⟨w.heap.size, 0, none⟩)] 24)) 9 (.string ⟨#[]⟩)
    rwa [World.size_alloc, World.size_alloc] at this
  exact ⟨⟨⟨hb, k1, World.ownsRow_nil _ _ _ _⟩, h.ch (S := fun _ => False) (Ch.of_new b1) id id, by omega, by omega, (fun x hx => by simp [Value.ownBlock] at hx)⟩, l2.alloc _, l3, b1, (fun x hx => by simp [Value.ownBlock] at hx), Nat.le_refl _, by omega⟩
theorem hd_at (s : ByteArray) (h : 0 < s.size) : hd s = (s[0]'h).toNat := by
  unfold hd
  have h' : 0 < s.data.size := h
  simp only [Array.getD, h', dif_pos]
  rfl
theorem mk_at (s : ByteArray) (h : 31 < s.size) : J.mk s = (s[31]'h).toNat := by
  unfold J.mk
  have h' : 31 < s.data.size := h
  simp only [Array.getD, h', dif_pos]
  rfl
/-- What the walk's rounds carry. -/
def OpI (w : World) (b p g g' : Nat) (D : DS) (k : Nat) (W : World) : Prop :=
  ∃ v l e t, OpS w b p g w.heap.size D v l e t W ∧ v.ownBlock ≠ some g' ∧ scan D.secs = scanGo (D.secs.drop k) k t l e ∧ t.size ≤ 30 * k ∧ e ≤ k ∧ l.length ≤ k
def OpX (w : World) (b p g : Nat) (D : DS) (W : World) : Prop :=
  ∃ v t, OpS w b p g w.heap.size D v (scan D.secs).1 (scan D.secs).2 t W
set_option maxRecDepth 100000 in
set_option maxHeartbeats 4000000 in
theorem open_call {b p g : Nat} {D : DS} {w : World} (h : DiskAt b p g D w) (hD : D.Ok) (hb : b ≤ w.heap.size) :
    Calls Try.prog 10 #[.pointer (some ⟨p, 0, none⟩)] w (OpenPost b p g D w) := by
  have H0 := Aside0.mk (op_start h hb)
  have hm := hD.most
  clear h
  refine (callsIn_wide (n := 9)).1 ?_
  refine callsIn_of_wp_marks Try.func10 rfl trivial ?_ rfl
  simp only [Try.ntmps10, List.size_toArray, List.length_cons, List.length_nil, Nat.reduceAdd, Nat.reduceSub, Array.replicate_succ, Array.replicate_zero, List.push_toArray, List.append_toArray, List.nil_append, List.cons_append]
  refine wpIn_wide.2 ?_
  go_wp2
  go_step3
  go_wp2
  go_step3
  go_wp2_with (go_at_call 25; refine (all_call H0.out.jd.disk hD).mono ?_; rintro e w1 ⟨s, g', rfl, hit, be⟩; have H1 := Aside0.mk (H0.out.step be); have HIT := Aside0.mk hit; have HG := Aside0.mk (show w.heap.size + 1 + 1 + 1 ≤ g' by have := hit.bg; simp at this; omega); clear hit be H0)
  refine (wpIn_wide (n := 9)).1 ?_
  refine range_own (n := 9) (encs := fun x : Nat × ByteArray => #[.int .i64 (x.1 : Int), .string x.2]) rfl (by omega) (gf := 38) (lb := #[.pointer (some ⟨s, 0, none⟩)]) rfl trivial (enters_of Try.func38 (by kernel_rfl) rfl)
    (all_yields (F := Fence.wide) (n := 9 - 1) trivial rfl (by omega) HIT.out (by omega)) (fun r hr => hr.elim) (fun h k => h.trans k) (fun W l o hl => KeepB.put W l o HIT.out.lg hl) (Below.refl _ _) (fun _ => rfl)
    (fun pre W => OpI w b p g g' D pre.length W)
    (fun c' pre W => c' = .exit 0 ∧ OpX w b p g D W)
    (fun _ X Y ht h => by obtain ⟨v, l, e, t, h1, h2⟩ := h; exact ⟨v, l, e, t, h1.turn H1.out.below.size ht, h2⟩) (fun _ _ X Y ht h => by obtain ⟨h0, v, t, h1⟩ := h; exact ⟨h0, v, t, h1.turn H1.out.below.size ht⟩) ⟨_, _, _, _, H1.out, by simp [Value.ownBlock], rfl, by simp [ByteArray.size], by simp, by simp⟩ ?round ?done ?stop
  case done =>
    intro Dd W hDd hI hK
    obtain ⟨v, l, e, t, hS, _, hsc, _⟩ := hI
    rw [show (secsOf D.secs).length = D.secs.length from upto_length _ _, List.drop_length] at hsc
    have hJ : JS.open D = ⟨l, e, false⟩ := by unfold JS.open; rw [hsc]; rfl
    have HS := Aside0.mk hS
    have HK := Aside0.mk hK
    have HJ := Aside0.mk hJ
    obtain ⟨c1, _, _, _, _, _⟩ := hS.cells
    clear hS hK hsc hJ
    go_wp2
    rw [Exit.noGoto_ret]
    have HT := HS.out.turn H1.out.below.size (Turn.put (own := fun _ => False) (.deferred none) hDd HK.out rfl)
    exact ⟨by simp, .inl ⟨_, _, rfl, run_takeDeferred HK.out, .pointer (some ⟨w.heap.size, 0, none⟩), by simp [results, Try.f10, go_sem], w.heap.size, v, rfl, by rw [HJ.out]; exact HT.jd, HT.below, Nat.le_refl _, fun x hx => (HT.fresh x hx).1⟩⟩
  case stop =>
    rintro Dd c' pre W hDd hp ⟨rfl, v, t, hS⟩ hK
    have HS := Aside0.mk hS
    have HK := Aside0.mk hK
    obtain ⟨c1, _, _, _, _, _⟩ := hS.cells
    clear hS hK hp
    refine wpIn_wide.2 ?_
    go_wp2
    rw [Exit.noGoto_ret]
    have HT := HS.out.turn H1.out.below.size (Turn.put (own := fun _ => False) (.deferred none) hDd HK.out rfl)
    exact ⟨by simp, .inl ⟨_, _, rfl, run_takeDeferred HK.out, .pointer (some ⟨w.heap.size, 0, none⟩), by simp [results, Try.f10, go_sem], w.heap.size, v, rfl, HT.jd, HT.below, Nat.le_refl _, fun x hx => (HT.fresh x hx).1⟩⟩
  case round =>
    intro l pre x W hp hl hI
    obtain ⟨hx, hlt⟩ := upto_at hp
    obtain ⟨x1, x2⟩ := x
    unfold sec at hx
    obtain ⟨rfl, rfl⟩ := Prod.mk.inj hx
    obtain ⟨k, hk⟩ : ∃ k, pre.length = k := ⟨_, rfl⟩
    obtain ⟨s0, hs0⟩ : ∃ y, D.secs.getD k ⟨#[]⟩ = y := ⟨_, rfl⟩
    have hsn : (pre ++ [(pre.length, D.secs.getD pre.length ⟨#[]⟩)]).length = k + 1 := by simp [hk]
    generalize pre ++ [(pre.length, D.secs.getD pre.length ⟨#[]⟩)] = pre1 at hsn ⊢
    rw [hk] at hI hlt ⊢
    rw [hs0]
    clear hp hx hk
    have hsz : s0.size = 32 := by rw [← hs0]; exact getD_size hD.size hlt
    have hdr : D.secs.drop k = s0 :: D.secs.drop (k + 1) := by
      rw [List.drop_eq_getElem_cons hlt, ← hs0, List.getD_eq_getElem?_getD, List.getElem?_eq_getElem hlt]
      rfl
    obtain ⟨v, lt, e0, t, hS, hvg, hsc, ht1, he1, hl1⟩ := hI
    rw [hdr, scanGo] at hsc
    have HSC := Aside0.mk hsc
    clear hsc hdr hs0
    gi_wp2
    refine ⟨KeepsFrom.refl _ _, fun _ ho => ho, fun Wb htn hL => ?_⟩
    have HSB := Aside0.mk (hS.turn H1.out.below.size htn)
    have HLG : Aside0 (g' < Wb.heap.size) := ⟨by obtain ⟨r, hr⟩ := hL; have := (Array.getElem?_eq_some_iff.1 hr).1; have := HIT.out.lg; omega⟩
    have HVG := Aside0.mk hvg
    clear hvg
    clear hS htn hL
    have i0 : ((s0[0]'(by omega)).toNat : Int) = (hd s0 : Int) := by rw [hd_at s0 (by omega)]
    have i31 : ((s0[31]'(by omega)).toNat : Int) = (mk s0 : Int) := by rw [mk_at s0 (by omega)]
    obtain ⟨n, hn⟩ : ∃ n, hd s0 = n := ⟨_, rfl⟩
    obtain ⟨m, hmk⟩ : ∃ m, mk s0 = m := ⟨_, rfl⟩
    have hwn : IntKind.i64.wrap (n : Int) = (n : Int) := IntWalk.i64_in _ (by have : n < 256 := (by rw [← hn]; exact UInt8.toNat_lt _); omega)
    have hn256 : n < 256 := by rw [← hn]; exact UInt8.toNat_lt _
    have hm256 : m < 256 := by rw [← hmk]; exact UInt8.toNat_lt _
    rw [hn] at HSC i0
    rw [hmk] at HSC i31
    gi_wp2
    refine region_round_quiet (by kernel_rfl) (by kernel_rfl) (by kernel_rfl) ?_
    repeat (quiet_step (fail))
    refine wpQuiet_nil ?_
    rintro _ ⟨nq, rfl⟩
    have HSC2 := HSC.out
    have HS := Aside0.mk (HSB.out.step (Drawn0.below ⟨⟨nq, rfl⟩⟩))
    have KP := Aside0.mk (Kps.new (B := w1.heap.size) (q := g') (Drawn0.below (w' := Wb.drewN nq) ⟨⟨nq, rfl⟩⟩))
    clear HSB HSC
    generalize Wb.drewN nq = W2 at HS KP ⊢
    by_cases hn30 : 30 < n
    · rw [if_pos hn30] at HSC2
      have HSC := Aside0.mk HSC2
      have q1 : decide ((30 : Int) < (n : Int)) = true := decide_eq_true (by omega)
      clear HSC2
      gi_wp2
      exact ⟨KP.out.from_, rfl, v, t, by rw [HSC.out]; exact HS.out⟩
    · rw [if_neg hn30] at HSC2
      have HSC := Aside0.mk HSC2
      have q1 : decide ((30 : Int) < (n : Int)) = false := decide_eq_false (by omega)
      have hx1 : (s0.extract 1 (1 + n)).size = n := by rw [ByteArray.size_extract]; omega
      have w1n : IntKind.i64.wrap ((1 : Int) + (n : Int)) = (1 : Int) + (n : Int) := IntWalk.i64_in _ (by omega)
      have k1n : (1 : Int) + (n : Int) ≤ 32 := by omega
      have k0n : (1 : Int) ≤ (1 : Int) + (n : Int) := by omega
      have tn : ((1 : Int) + (n : Int)).toNat = 1 + n := by omega
      have kc : ∀ A B : Result Next, (if 9223372036854775807 < t.size + n then A else B) = B := fun A B => if_neg (by omega)
      obtain ⟨c1, c2, c3, c4, c5, c6⟩ := HS.out.cells
      clear HSC2
      gi_wp2
      refine region_round_T (fun w' => w'.cell? ⟨w.heap.size + 1 + 1, 0, none⟩ = some (.string t)) 6 (by kernel_rfl) (by kernel_rfl) c2 (fun K hK hHeld => ?_)
      refine wpT_take (i := 0) (some 23) (v := ?_) rfl (by kernel_rfl) (by kernel_rfl) (by kernel_rfl) (by kernel_rfl) (fun _ _ _ h => h) rfl (Or.inl ⟨by rfl, ?_⟩) (by assumption) ?_
      rotate_left
      · intro w hSw; (try dsimp only at hSw); go_simp; (try with_reducible rfl)
      try simp only [Act.put, List.setIfInBounds_toArray, List.set_cons_zero, List.set_cons_succ]
      refine wpT_take (i := 1) (some 24) (v := ?_) rfl (by kernel_rfl) (by kernel_rfl) (by kernel_rfl) (by kernel_rfl) (fun _ _ _ h => h) rfl (Or.inl ⟨by rfl, ?_⟩) (by assumption) ?_
      rotate_left
      · intro w hSw; (try dsimp only at hSw); go_simp; (try with_reducible rfl)
      try simp only [Act.put, List.setIfInBounds_toArray, List.set_cons_zero, List.set_cons_succ]
      refine wpT_take (i := 2) (some 25) (v := ?_) rfl (by kernel_rfl) (by kernel_rfl) (by kernel_rfl) (by kernel_rfl) (fun _ _ _ h => h) rfl (Or.inl ⟨by rfl, ?_⟩) (by assumption) ?_
      rotate_left
      · intro w hSw; (try dsimp only at hSw); go_simp; (try with_reducible rfl)
      try simp only [Act.put, List.setIfInBounds_toArray, List.set_cons_zero, List.set_cons_succ]
      refine wpT_take (i := 3) (some 26) (v := ?_) rfl (by kernel_rfl) (by kernel_rfl) (by kernel_rfl) (by kernel_rfl) (fun _ _ _ h => h) rfl (Or.inl ⟨by rfl, ?_⟩) (by assumption) ?_
      rotate_left
      · intro w hSw; (try dsimp only at hSw); go_simp; (try with_reducible rfl)
      try simp only [Act.put, List.setIfInBounds_toArray, List.set_cons_zero, List.set_cons_succ]
      refine wpT_take (i := 4) (some 27) (v := ?_) rfl (by kernel_rfl) (by kernel_rfl) (by kernel_rfl) (by kernel_rfl) (fun _ _ _ h => h) rfl (Or.inl ⟨by rfl, ?_⟩) (by assumption) ?_
      rotate_left
      · intro w hSw; (try dsimp only at hSw); go_simp; (try with_reducible rfl)
      try simp only [Act.put, List.setIfInBounds_toArray, List.set_cons_zero, List.set_cons_succ]
      refine wpT_take (i := 5) (some 28) (v := ?_) rfl (by kernel_rfl) (by kernel_rfl) (by kernel_rfl) (by kernel_rfl) (fun _ _ _ h => h) rfl (Or.inl ⟨by rfl, ?_⟩) (by assumption) ?_
      rotate_left
      · intro w hSw; (try dsimp only at hSw); go_simp; (try with_reducible rfl)
      try simp only [Act.put, List.setIfInBounds_toArray, List.set_cons_zero, List.set_cons_succ]
      refine wpT_ready (rs := [6]) (by kernel_rfl) (by simp) ?_
      refine AllT.cons rfl (fun K' hK' => ?_) AllT.nil
      go_simp
      refine hK'.out _ _ (fun h => absurd h (by decide)) (fun _ => ?_)
      refine wpT_done (by kernel_rfl) ?_ _
      refine hK.out _ _ ?_
      have hts : (t ++ s0.extract 1 (1 + n)).size = t.size + n := by rw [ByteArray.size_append, hx1]
      generalize t ++ s0.extract 1 (1 + n) = t' at HSC hts ⊢
      have HS3 := Aside0.mk ((HS.out.text t').step (bdrew (Below.refl _ _)))
      have KP3 := Aside0.mk ((KP.out.trans (Kps.set W2 (w.heap.size + 1 + 1) 0 (.string t') (by have := HG.out; omega))).trans (Kps.drew _))
      clear hK hHeld hK' K K' HS KP c1 c2 c3 c4 c5 c6
      generalize (W2.setCell ⟨w.heap.size + 1 + 1, 0, none⟩ (.string t')).drew = W3 at HS3 KP3 ⊢
      obtain ⟨c1, c2, c3, c4, c5, c6⟩ := HS3.out.cells
      by_cases hm1 : m = 1
      · rw [if_pos hm1] at HSC
        have q2 : ((m : Int) == 1) = true := beq_iff_eq.2 (by omega)
        gi_wp2
        exact ⟨KP3.out.from_, KP3.out.keep, by show OpI w b p g g' D pre1.length W3; rw [hsn]; exact ⟨v, lt, e0, t', HS3.out, HVG.out, HSC.out, by omega, by omega, by omega⟩⟩
      · rw [if_neg hm1] at HSC
        have q2 : ((m : Int) == 1) = false := beq_eq_false_iff_ne.2 (by omega)
        by_cases hm2 : m = 2
        · rw [if_pos hm2] at HSC
          have q3 : ((m : Int) == 2) = true := beq_iff_eq.2 (by omega)
          obtain ⟨ii, hi0, hz0, hz1, hz2⟩ : ∃ i0, Try.prog.info? 9 = some i0 ∧ i0.zero = some (.string ⟨#[]⟩) ∧ i0.size = 1 ∧ i0.bytes = 16 := by
            have h := info9
            cases hh : Try.prog.info? 9 with
            | none => rw [hh] at h; cases h
            | some i => rw [hh] at h; simp at h; exact ⟨i, rfl, h.1, h.2.1, h.2.2⟩
          have HI := Aside0.mk hi0
          have HZ0 := Aside0.mk hz0
          have HZ1 := Aside0.mk hz1
          have HZ2 := Aside0.mk hz2
          have hbl : Aside0 (Below W3.heap.size W3 (W3.alloc (.cells #[.string t'] 9)).drew) := ⟨bdrew ((Below.refl _ W3).alloc (Nat.le_refl _) _)⟩
          have e1 := pw_cell_below hbl.out c1
          have e2 := pw_cell_below hbl.out c2
          have e3 := pw_cell_below hbl.out c4
          have HO := Aside0.mk (HS3.out.step hbl.out).jd.jour.2.2
          have hr1 := Aside0.mk (RdS.one (W := (W3.alloc (.cells #[.string t'] 9)).drew) (b := W3.heap.size) (x := t') (World.alloc_heap_new W3 _))
          have hbs : Aside0 (b ≤ (W3.alloc (.cells #[.string t'] 9)).drew.heap.size) := ⟨Nat.le_trans hb (Nat.le_trans HS3.out.below.size hbl.out.size)⟩
          clear hi0 hz0 hz1 hz2
          gi_wp2
          refine region_round_T (fun w' => w'.cell? ⟨w.heap.size + 1, 0, none⟩ = some (.pointer (some ⟨w.heap.size, 0, none⟩)) ∧ w'.cell? ⟨w.heap.size + 1 + 1, 0, none⟩ = some (.string t') ∧ w'.cell? ⟨w.heap.size, 1, none⟩ = some v) 8 (by kernel_rfl) (by kernel_rfl) ⟨c1, c2, c4⟩ (fun K hK hHeld => ?_)
          refine wpT_take (i := 0) (some 34) (v := ?_) rfl (by kernel_rfl) (by kernel_rfl) (by kernel_rfl) (by kernel_rfl) (fun _ _ _ h => h) rfl (Or.inl ⟨by rfl, ?_⟩) (by assumption) ?_
          rotate_left
          · intro w hSw; (try dsimp only at hSw); go_simp; (try with_reducible rfl)
          try simp only [Act.put, List.setIfInBounds_toArray, List.set_cons_zero, List.set_cons_succ]
          refine wpT_take (i := 1) (some 35) (v := ?_) rfl (by kernel_rfl) (by kernel_rfl) (by kernel_rfl) (by kernel_rfl) (fun _ _ _ h => h) rfl (Or.inl ⟨by rfl, ?_⟩) (by assumption) ?_
          rotate_left
          · intro w hSw; (try dsimp only at hSw); go_simp; (try with_reducible rfl)
          try simp only [Act.put, List.setIfInBounds_toArray, List.set_cons_zero, List.set_cons_succ]
          refine wpT_take (i := 2) (some 36) (v := ?_) rfl (by kernel_rfl) (by kernel_rfl) (by kernel_rfl) (by kernel_rfl) (fun _ _ _ h => h) rfl (Or.inl ⟨by rfl, ?_⟩) (by assumption) ?_
          rotate_left
          · intro w hSw; (try dsimp only at hSw); go_simp; (try with_reducible rfl)
          try simp only [Act.put, List.setIfInBounds_toArray, List.set_cons_zero, List.set_cons_succ]
          refine wpT_take (i := 3) (some 37) (v := ?_) rfl (by kernel_rfl) (by kernel_rfl) (by kernel_rfl) (by kernel_rfl) (fun _ _ _ h => h) rfl (Or.inl ⟨by rfl, ?_⟩) (by assumption) ?_
          rotate_left
          · intro w hSw; (try dsimp only at hSw); go_simp; (try with_reducible rfl)
          try simp only [Act.put, List.setIfInBounds_toArray, List.set_cons_zero, List.set_cons_succ]
          refine wpT_take (i := 4) (some 38) (v := ?_) rfl (by kernel_rfl) (by kernel_rfl) (by kernel_rfl) (by kernel_rfl) (fun _ _ _ h => h) rfl (Or.inl ⟨by rfl, ?_⟩) (by assumption) ?_
          rotate_left
          · intro w hSw; (try dsimp only at hSw); go_simp; (try with_reducible rfl)
          try simp only [Act.put, List.setIfInBounds_toArray, List.set_cons_zero, List.set_cons_succ]
          refine wpT_take (i := 5) (some 39) (v := ?_) rfl (by kernel_rfl) (by kernel_rfl) (by kernel_rfl) (by kernel_rfl) (fun _ _ _ h => h) rfl (Or.inl ⟨by rfl, ?_⟩) (by assumption) ?_
          rotate_left
          · intro w hSw; (try dsimp only at hSw); go_simp; (try with_reducible rfl)
          try simp only [Act.put, List.setIfInBounds_toArray, List.set_cons_zero, List.set_cons_succ]
          refine wpT_ready (rs := [6]) (by kernel_rfl) (by simp) ?_
          refine AllT.cons rfl (fun K' hK' => ?_) AllT.nil
          go_simp
          refine hK'.out _ _ (fun _ => ⟨e1, e2, e3⟩) (fun hHeld => ?_)
          clear hK' K'
          refine wpT_ready (rs := [7]) (by kernel_rfl) (by simp) ?_
          refine AllT.cons rfl (fun K' hK' => ?_) AllT.nil
          refine step_app b rfl (.tmp 38) (.tmp 40) 30 ii rfl Try.underlying30 HI.out HZ0.out HZ1.out HZ2.out v lt [t'] (some ⟨W3.heap.size, 0, none⟩) 1 1 (by rfl) (by rfl) HO.out hr1.out hbs.out (by omega) ?_
          intro v1 w5 hown hgrow hat
          obtain ⟨a7, cap7, hv7⟩ := own_len1 hown
          subst hv7
          obtain ⟨g1, g2, g3, g4⟩ := HS3.out.grown hbl.out hgrow
          refine hK'.out _ _ (fun _ => ⟨g1, g2, g3⟩) (fun hHeld => ?_)
          replace hHeld := hHeld (by decide)
          have HVG4 : Aside0 ((Value.slice a7 (lt.length + 1) cap7).ownBlock ≠ some g') := ⟨fun e => by rcases hat with h | h; exact HVG.out (h.symm.trans e); rw [h] at e; cases e; have := HLG.out; have := KP3.out.from_.size; have := hbl.out.size; omega⟩
          have HS4 := Aside0.mk (HS3.out.app hbl.out hgrow hown hat)
          have KP4 := Aside0.mk (((KP3.out.trans (Kps.new hbl.out)).trans (Kps.grown hgrow HVG.out (fun x hx => row_cells (HS3.out.step hbl.out).jd.jour.2.2 hx))).trans (Kps.set w5 w.heap.size 1 (.slice a7 (lt.length + 1) cap7) (by have := HG.out; omega)))
          clear hK' K' hown hgrow hat
          simp only [Act.put, List.setIfInBounds_toArray, List.set_cons_zero, List.set_cons_succ]
          refine wpT_take (i := 8) (some 42) (v := ?_) rfl (by kernel_rfl) (by kernel_rfl) (by kernel_rfl) (by kernel_rfl) (fun _ _ _ h => h) rfl (Or.inl ⟨by rfl, ?_⟩) (by assumption) ?_
          rotate_left
          · intro w hSw; (try dsimp only at hSw); go_simp; (try with_reducible rfl)
          try simp only [Act.put, List.setIfInBounds_toArray, List.set_cons_zero, List.set_cons_succ]
          refine wpT_take (i := 9) (some 43) (v := ?_) rfl (by kernel_rfl) (by kernel_rfl) (by kernel_rfl) (by kernel_rfl) (fun _ _ _ h => h) rfl (Or.inl ⟨by rfl, ?_⟩) (by assumption) ?_
          rotate_left
          · intro w hSw; (try dsimp only at hSw); go_simp; (try with_reducible rfl)
          try simp only [Act.put, List.setIfInBounds_toArray, List.set_cons_zero, List.set_cons_succ]
          refine wpT_ready (rs := [10]) (by kernel_rfl) (by simp) ?_
          refine AllT.cons rfl (fun K' hK' => ?_) AllT.nil
          go_simp
          refine hK'.out _ _ (fun h => absurd h (by decide)) (fun _ => ?_)
          refine wpT_done (by kernel_rfl) ?_ _
          refine hK.out _ _ ?_
          clear hK hHeld hK' K K' HS3 KP3 c1 c2 c3 c4 c5 c6 e1 e2 e3 HO hr1 hbs g1 g2 g3 g4
          generalize w5.setCell ⟨w.heap.size, 1, none⟩ (.slice a7 (lt.length + 1) cap7) = W4 at HS4 KP4 ⊢
          obtain ⟨c1, c2, c3, c4, c5, c6⟩ := HS4.out.cells
          have f2 := c5 2
          have wk : IntKind.i64.wrap ((k : Int) + 1) = (k : Int) + 1 := IntWalk.i64_in _ (by omega)
          gi_wp2
          refine region_round_T (fun w' => w'.cell? ⟨w.heap.size + 1, 0, none⟩ = some (.pointer (some ⟨w.heap.size, 0, none⟩))) 4 (by kernel_rfl) (by kernel_rfl) c1 (fun K hK hHeld => ?_)
          refine wpT_take (i := 0) (some 44) (v := ?_) rfl (by kernel_rfl) (by kernel_rfl) (by kernel_rfl) (by kernel_rfl) (fun _ _ _ h => h) rfl (Or.inl ⟨by rfl, ?_⟩) (by assumption) ?_
          rotate_left
          · intro w hSw; (try dsimp only at hSw); go_simp; (try with_reducible rfl)
          try simp only [Act.put, List.setIfInBounds_toArray, List.set_cons_zero, List.set_cons_succ]
          refine wpT_take (i := 1) (some 45) (v := ?_) rfl (by kernel_rfl) (by kernel_rfl) (by kernel_rfl) (by kernel_rfl) (fun _ _ _ h => h) rfl (Or.inl ⟨by rfl, ?_⟩) (by assumption) ?_
          rotate_left
          · intro w hSw; (try dsimp only at hSw); go_simp; (try with_reducible rfl)
          try simp only [Act.put, List.setIfInBounds_toArray, List.set_cons_zero, List.set_cons_succ]
          refine wpT_take (i := 2) (some 46) (v := ?_) rfl (by kernel_rfl) (by kernel_rfl) (by kernel_rfl) (by kernel_rfl) (fun _ _ _ h => h) rfl (Or.inl ⟨by rfl, ?_⟩) (by assumption) ?_
          rotate_left
          · intro w hSw; (try dsimp only at hSw); go_simp; (try with_reducible rfl)
          try simp only [Act.put, List.setIfInBounds_toArray, List.set_cons_zero, List.set_cons_succ]
          refine wpT_ready (rs := [3]) (by kernel_rfl) (by simp) ?_
          refine AllT.cons rfl (fun K' hK' => ?_) AllT.nil
          go_simp
          have HS5 := Aside0.mk (HS4.out.text ⟨#[]⟩)
          have g1 := HS5.out.cells
          refine hK'.out _ _ (fun _ => g1.1) (fun hHeld => ?_)
          replace hHeld := hHeld (by decide)
          clear hK' K'
          refine wpT_take (i := 4) (some 47) (v := ?_) rfl (by kernel_rfl) (by kernel_rfl) (by kernel_rfl) (by kernel_rfl) (fun _ _ _ h => h) rfl (Or.inl ⟨by rfl, ?_⟩) (by assumption) ?_
          rotate_left
          · intro w hSw; (try dsimp only at hSw); go_simp; (try with_reducible rfl)
          try simp only [Act.put, List.setIfInBounds_toArray, List.set_cons_zero, List.set_cons_succ]
          refine wpT_take (i := 5) (some 48) (v := ?_) rfl (by kernel_rfl) (by kernel_rfl) (by kernel_rfl) (by kernel_rfl) (fun _ _ _ h => h) rfl (Or.inl ⟨by rfl, ?_⟩) (by assumption) ?_
          rotate_left
          · intro w hSw; (try dsimp only at hSw); go_simp; (try with_reducible rfl)
          try simp only [Act.put, List.setIfInBounds_toArray, List.set_cons_zero, List.set_cons_succ]
          obtain ⟨g1, g2, g3, g4, g5, g6⟩ := g1
          have g7 := g5 2
          refine wpT_ready (rs := [6]) (by kernel_rfl) (by simp) ?_
          refine AllT.cons rfl (fun K' hK' => ?_) AllT.nil
          go_simp
          refine hK'.out _ _ (fun h => absurd h (by decide)) (fun _ => ?_)
          refine wpT_done (by kernel_rfl) ?_ _
          refine hK.out _ _ ?_
          have HS6 := (HS5.out.setE (z := (k : Int) + 1) (k + 1) (by omega)).step (bdrew (Below.refl _ _))
          have KP6 := ((KP4.out.trans (Kps.set W4 (w.heap.size + 1 + 1) 0 (.string ⟨#[]⟩) (by have := HG.out; omega))).trans (Kps.set _ w.heap.size 2 (.int .i64 ((k : Int) + 1)) (by have := HG.out; omega))).trans (Kps.drew _)
          exact ⟨KP6.from_, KP6.keep, by show OpI w b p g g' D pre1.length _; rw [hsn]; exact ⟨_, lt ++ [t'], k + 1, ⟨#[]⟩, HS6, HVG4.out, HSC.out, by simp [ByteArray.size], Nat.le_refl _, by simp; omega⟩⟩
        · rw [if_neg hm2] at HSC
          have q3 : ((m : Int) == 2) = false := beq_eq_false_iff_ne.2 (by omega)
          gi_wp2
          exact ⟨KP3.out.from_, rfl, v, t', by rw [HSC.out]; exact HS3.out⟩
end Go.Proofs.Ytpnnnhdhmdildaa.Given
