/- Any text, one that was pressed with a byte turned, cut, more, or pieces: Expand and its reference make the same of it, or both nothing. For every input. No condition. -/
import Derived.Test.YtjiafbckfnglmaaPPress
import Derived.Test.YtjiafbckfnglmaaPExpandRef
import Derived.Test.YtjiafbckfnglmaaPText
import Derived.Test.YtjiafbckfnglmaaPSruns
import Derived.OpenShut
import Derived.Test.YtjiafbckfnglmaaQx7
set_option linter.unusedVariables false
set_option linter.unusedSimpArgs false
namespace Go.Proofs.Ytjiafbckfnglmaa.Pure
open Go.RowKit Go.Proofs.Ytjiafbckfnglmaa.B Go.Proofs.Ytjiafbckfnglmaa.PW Go.Proofs.Ytjiafbckfnglmaa.Given Go.Proofs.Ytjiafbckfnglmaa.Q Go.Proofs.YtjiafbckfnglmaaW.PrintWords Go.Proofs.YtjiafbckfnglmaaW.PrintMore
theorem tells2 (m : Int) (x : ByteArray) (hx : x.size ≤ 4611686018427387904) : Ev (fun k => ammonitelaw4_SqueezeTells.j2 k m x) true := by
  refine Ev.step (fun k => ammonitelaw4_SqueezeTells.j2.eq_2 m x k) ?_
  obtain ⟨t, ht, _, _⟩ := within_ev m (lo := 0) (hi := 500) (by omega) (by omega) (by omega)
  refine Ev.cb ht (Ev.bind (expand_ev x hx t) ?_)
  obtain ⟨r, hr, hok, hl⟩ := rexpand_ev x hx t
  refine Ev.bind hr ?_
  cases he : exS (bytesOf x) t with
  | none =>
    rw [he] at hok
    unfold exR
    dsimp only
    rw [hok]
    exact Ev.nn (by decide) (Ev.ip (toList_nil.2 rfl) (Ev.ip rfl (Ev.bind sruns (Ev.now _))))
  | some l =>
    rw [he] at hok hl
    unfold exR
    dsimp only
    rw [hok, hl l rfl]
    exact Ev.ip rfl (Ev.ip rfl (Ev.ip rfl (Ev.bind sruns (Ev.now _))))
theorem tells1 (a c h m : Int) (x : ByteArray) (hc0 : 0 ≤ c) (hc : c < 256) (hx : x.size ≤ 1000000) (h0 : 1 ≤ x.size) : Ev (fun k => ammonitelaw4_SqueezeTells.j1 k a c h m x) true := by
  refine Ev.step (fun k => ammonitelaw4_SqueezeTells.j1.eq_2 a c h m x k) ?_
  rw [w64 (n := (x.size : Int) - 1) (by omega) (by omega)]
  obtain ⟨t, ht, ht0, ht1⟩ := within_ev a (lo := 0) (hi := (x.size : Int) - 1) (by omega) (by omega) (by omega)
  refine Ev.nn (by omega) (Ev.cb ht ?_)
  rw [w64 (n := t + 1) (by omega) (by omega)]
  have c1 : (cutS x 0 t.toNat).size = t.toNat := by rw [size_cut (by omega)]; omega
  have c2 : (cutS x (t + 1).toNat x.size).size = x.size - (t + 1).toNat := size_cut (Nat.le_refl _)
  have s1 : (strOfNums [c]).size = 1 := by rw [size_nums]; rfl
  by_cases g : (Go.bits .and .i64 (h / 4) 3) = 0
  · refine Ev.ip g (Ev.ip ht0 (Ev.ip (by omega) (Ev.cb rfl (Ev.ip (by rw [c1, s1]; omega) (Ev.ip (by omega) (Ev.ip (by omega) (Ev.ip (by rw [size_cat, c1, s1, c2]; omega) ?_)))))))
    exact tells2 m _ (by rw [size_cat, size_cat, c1, s1, c2]; omega)
  · refine Ev.nn g ?_
    by_cases g2 : (Go.bits .and .i64 (h / 4) 3) = 1
    · exact Ev.ip g2 (Ev.ip ht0 (Ev.ip (by omega) (tells2 m _ (by rw [c1]; omega))))
    · exact Ev.nn g2 (tells2 m _ (by omega))
theorem tells0 (a c h m : Int) (x : ByteArray) (hc0 : 0 ≤ c) (hc : c < 256) (hx : x.size ≤ 1000000) (h0 : 1 ≤ x.size) (seed : Int) (ops : List Int) (ho : ops.length ≤ 9223372036854775807) : Ev (fun k => ammonitelaw4_SqueezeTells.j0 k a c h m x seed ops) true := by
  refine Ev.step (fun k => ammonitelaw4_SqueezeTells.j0.eq_2 a c h m x seed ops k) ?_
  by_cases g : (Go.bits .and .i64 h 3) = 2
  · obtain ⟨t, ht, hts⟩ := text_ev seed ops ho
    obtain ⟨r, P, h1, h2, _, h4⟩ := press_ev t (by omega)
    refine Ev.ip g (Ev.bind ht (Ev.cb h1 (tells1 a c h m r hc0 hc (by omega) ?_)))
    rw [← size_len, h2, List.length_append, List.length_cons]
    omega
  · exact Ev.nn g (tells1 a c h m x hc0 hc hx h0)
theorem fin5 (t : Int) (h0 : 0 ≤ t) (h1 : t ≤ 19) : Int.tmod t 5 = t % 5 := Int.tmod_eq_emod_of_nonneg h0
theorem pieces_end (ops : List Int) (o : ByteArray) (ho : o.size ≤ 1000) (size : Nat) (hz : size ≤ 1000) (i : Int) : ∃ r, Ev (fun k => ammonitekeep_Pieces.j1 k ops o size i false) r ∧ 1 ≤ r.size ∧ r.size ≤ 100000 := by
  have dl := (decL_len size)
  refine ⟨_, Ev.step (fun k => ammonitekeep_Pieces.j1.eq_2 ops o size i false k) (Ev.nn (by decide) (Ev.bind (rdec_ev size (by omega)) (Ev.ip (by rw [size_dec]; omega) (Ev.ip (by rw [size_cat, size_dec]; simp only [show (⟨#[59]⟩ : ByteArray).size = 1 from rfl]; omega) (Ev.now _))))), ?_⟩
  rw [size_cat, size_cat, size_dec]
  simp only [show (⟨#[59]⟩ : ByteArray).size = 1 from rfl]
  omega
theorem wpc {t : Int} (h0 : 0 ≤ t) (h1 : t ≤ 19) : wrap64 ((Int.tmod t 5) + 1) = ((t.toNat % 5 + 1 : Nat) : Int) := by rw [fin5 t h0 h1, w64 (by omega) (by omega)]; omega
theorem wps {t : Int} {z : Nat} (h0 : 0 ≤ t) (h1 : t ≤ 19) (hz : z ≤ 1000) : wrap64 ((wrap64 ((z : Int) + (Int.tmod t 5))) + 1) = ((z + t.toNat % 5 + 1 : Nat) : Int) := by
  rw [fin5 t h0 h1, w64 (n := (z : Int) + t % 5) (by omega) (by omega), w64 (by omega) (by omega)]; omega
theorem pieces_loop (ops : List Int) (hops : ops.length ≤ 1152921504606846975) (d : Nat) : ∀ (i size : Nat) (o : ByteArray), i + d = 8 → size ≤ 12 * i → o.size ≤ 6 * i → ∃ r, Ev (fun k => ammonitekeep_Pieces.l0 k ops o size i) r ∧ 1 ≤ r.size ∧ r.size ≤ 100000 := by
  induction d with
  | zero =>
    intro i size o hi hz ho
    obtain ⟨r, hr, hs⟩ := pieces_end ops o (by omega) size (by omega) i
    refine ⟨r, Ev.step (fun k => ammonitekeep_Pieces.l0.eq_2 ops o size i k) ?_, hs⟩
    by_cases g : (i : Int) < (ops.length : Int)
    · refine Ev.ip g ?_
      rw [decide_eq_false (by omega)]
      exact hr
    · exact Ev.nn g hr
  | succ d ih =>
    intro i size o hi hz ho
    by_cases g : (i : Int) < (ops.length : Int)
    · obtain ⟨t, ht, h0, h1⟩ := within_ev (rd ops i) (lo := 0) (hi := 19) (by omega) (by omega) (by omega)
      have wi : wrap64 ((i : Int) + 1) = ((i + 1 : Nat) : Int) := by rw [w64 (by omega) (by omega)]; omega
      have c1 : (cutS (⟨#[97, 98, 99, 100, 101, 102, 103, 104]⟩ : ByteArray) 0 (t.toNat % 5 + 1)).size = t.toNat % 5 + 1 := by
        rw [size_cut (by rw [show (⟨#[97, 98, 99, 100, 101, 102, 103, 104]⟩ : ByteArray).size = 8 from rfl]; omega)]; omega
      have s1 : ∀ x : Int, (strOfNums [x]).size = 1 := fun x => by rw [size_nums]; rfl
      have s3 : ∀ x y z : Int, (strOfNums [x, y, z]).size = 3 := fun x y z => by rw [size_nums]; rfl
      obtain ⟨r1, e1, l1⟩ := ih (i + 1) (size + t.toNat % 5 + 1) (catS (catS o (strOfNums [(Int.tmod t 5) % 256])) (cutS (⟨#[97, 98, 99, 100, 101, 102, 103, 104]⟩ : ByteArray) 0 (t.toNat % 5 + 1))) (by omega) (by omega) (by rw [size_cat, size_cat, s1, c1]; omega)
      have lit : ∀ {q}, Ev (fun k => if o.size + (strOfNums [(Int.tmod t 5) % 256]).size ≤ 9223372036854775807 then (if 0 ≤ (wrap64 ((Int.tmod t 5) + 1)) then (if (wrap64 ((Int.tmod t 5) + 1)) ≤ 8 then (if (catS o (strOfNums [(Int.tmod t 5) % 256])).size + (cutS (⟨#[97, 98, 99, 100, 101, 102, 103, 104]⟩ : ByteArray) 0 ((wrap64 ((Int.tmod t 5) + 1)) : Int).toNat).size ≤ 9223372036854775807 then (ammonitekeep_Pieces.l0 k ops (catS (catS o (strOfNums [(Int.tmod t 5) % 256])) (cutS (⟨#[97, 98, 99, 100, 101, 102, 103, 104]⟩ : ByteArray) 0 ((wrap64 ((Int.tmod t 5) + 1)) : Int).toNat)) (wrap64 ((wrap64 ((size : Int) + (Int.tmod t 5))) + 1)) (wrap64 ((i : Int) + 1))) else q) else q) else q) else q) r1 := by
        intro q
        rw [wpc h0 h1, wps h0 h1 (by omega), wi, Int.toNat_natCast]
        exact Ev.ip (by rw [s1]; omega) (Ev.ip (by omega) (Ev.ip (by omega) (Ev.ip (by rw [size_cat, s1, c1]; omega) e1)))
      by_cases a : t < 10
      · refine ⟨r1, Ev.step (fun k => ammonitekeep_Pieces.l0.eq_2 ops o size i k) (Ev.ip g (Ev.step (fun k => ammonitekeep_Pieces.j1.eq_2 ops o size i _ k) (Ev.ip (decide_eq_true (by omega)) (Ev.ip (by omega) (Ev.ip (by omega) (Ev.cb ht (Ev.ip a (Ev.cb rfl lit)))))))), l1⟩
      · by_cases b : size = 0
        · refine ⟨r1, Ev.step (fun k => ammonitekeep_Pieces.l0.eq_2 ops o size i k) (Ev.ip g (Ev.step (fun k => ammonitekeep_Pieces.j1.eq_2 ops o size i _ k) (Ev.ip (decide_eq_true (by omega)) (Ev.ip (by omega) (Ev.ip (by omega) (Ev.cb ht (Ev.nn a (Ev.ip (by omega) (Ev.cb rfl lit))))))))), l1⟩
        · obtain ⟨t2, ht2, h20, h21⟩ := within_ev (wrap64 (Int.tdiv (rd ops i) 20)) (lo := 0) (hi := size) (by omega) (by omega) (by omega)
          obtain ⟨r2, e2, l2⟩ := ih (i + 1) (size + (t.toNat - 7)) (catS o (strOfNums [(wrap64 ((wrap64 (128 + t)) - 10)) % 256, 0, (wrap64 (1 + t2)) % 256])) (by omega) (by omega) (by rw [size_cat, s3]; omega)
          have wz : wrap64 ((wrap64 ((wrap64 ((size : Int) + t)) - 10)) + 3) = ((size + (t.toNat - 7) : Nat) : Int) := by
            rw [w64 (n := (size : Int) + t) (by omega) (by omega), w64 (n := (size : Int) + t - 10) (by omega) (by omega), w64 (by omega) (by omega)]; omega
          refine ⟨r2, Ev.step (fun k => ammonitekeep_Pieces.l0.eq_2 ops o size i k) (Ev.ip g (Ev.step (fun k => ammonitekeep_Pieces.j1.eq_2 ops o size i _ k) (Ev.ip (decide_eq_true (by omega)) (Ev.ip (by omega) (Ev.ip (by omega) (Ev.cb ht (Ev.nn a (Ev.nn (by omega) (Ev.cb ht2 (Ev.cb rfl (Ev.ip (by rw [s3]; omega) ?_))))))))))), l2⟩
          rw [wz, wi]
          exact e2
    · obtain ⟨r, hr, hs⟩ := pieces_end ops o (by omega) size (by omega) i
      exact ⟨r, Ev.step (fun k => ammonitekeep_Pieces.l0.eq_2 ops o size i k) (Ev.nn g hr), hs⟩
theorem SqueezeTells : ammonitelaw4_SqueezeTells.Pure := by
  intro seed ops raw ops2 a c h m hseed hops hops2 hraw ho1 ho2 ho3 ha hc hh hm
  obtain ⟨hc0, hc1⟩ : 0 ≤ c ∧ c < 256 := by
    have := bounds_u8 hc
    omega
  have hmo : ops.length ≤ 9223372036854775807 := by unfold maxLen at hops; omega
  have hm2 : mn (raw.size : Int) 20 = ((min raw.size 20 : Nat) : Int) := by unfold mn; omega
  have key : Ev (fun k => ammonitelaw4_SqueezeTells.f k seed ops raw ops2 a c h m) true := by
    unfold ammonitelaw4_SqueezeTells.f
    rw [hm2, Int.toNat_natCast]
    have cs : (cutS raw 0 (min raw.size 20)).size = min raw.size 20 := by rw [size_cut (by omega)]; omega
    refine Ev.ip (by omega) (Ev.ip (by omega) (Ev.ip (by rw [cs]; omega) ?_))
    by_cases g : (Go.bits .and .i64 h 1) = 1
    · obtain ⟨r, hr, h1, h2⟩ := pieces_loop ops2 (by omega) 8 0 0 ⟨#[]⟩ (by omega) (by omega) (by decide)
      exact Ev.ip g (Ev.bind hr (tells0 a c h m r hc0 hc1 (by omega) h1 seed ops hmo))
    · refine Ev.nn g (tells0 a c h m _ hc0 hc1 ?_ ?_ seed ops hmo)
      · rw [size_cat, cs]; simp only [show (⟨#[57, 59]⟩ : ByteArray).size = 2 from rfl]; omega
      · rw [size_cat, cs]; simp only [show (⟨#[57, 59]⟩ : ByteArray).size = 2 from rfl]; omega
  obtain ⟨K, hK⟩ := key
  exact ⟨K, hK K (Nat.le_refl _)⟩
end Go.Proofs.Ytjiafbckfnglmaa.Pure
