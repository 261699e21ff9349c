/- The plain laws of keep.Text and keep.Delta: a text of at most 200 bytes; some delta. -/
import Derived.Test.YtcjkichimndioabPCheck
import Derived.Test.YtcjkichimndioabPDigitRef
import Derived.Test.YtcjkichimndioabQx3
import Derived.Test.YtcjkichimndioabQx5
set_option linter.unusedSimpArgs false
namespace Go.Proofs.Ytcjkichimndioab.B
open Go.RowKit Go.Proofs.Ytcjkichimndioab.PW Go.Proofs.Ytcjkichimndioab.Given Go.Proofs.Ytcjkichimndioab.Q Go.Proofs.YtcjkichimndioabW.PrintWords Go.Proofs.YtcjkichimndioabW.PrintMore
theorem text_loop (pieces : List ByteArray) (hp : pieces.length = 8) (hs : ∀ i, i < 8 → (rdOf ByteArray.empty pieces ((i : Nat) : Int)).size ≤ 30) (seed : Int) (ops : List Int) (ho : ops.length ≤ 9223372036854775807) (d : Nat) : ∀ (i : Nat) (x : ByteArray), i + d = ops.length → x.size < 200 →
    ∃ r, Ev (fun k => ammonitekeep_Text_Text.l0 k pieces x i seed ops) r ∧ r.size < 200 := by
  induction d with
  | zero =>
    intro i x hi hx
    exact ⟨x, Ev.step (fun k => ammonitekeep_Text_Text.l0.eq_2 pieces x i seed ops k) (Ev.nn (by omega) (Ev.now _)), hx⟩
  | succ d ih =>
    intro i x hi hx
    by_cases g : x.size < 170
    · obtain ⟨t, e, h0, h1⟩ := within_ev (wrap64 ((rd ops i) + (Go.bits .and .i64 seed 1))) (lo := 0) (hi := 7) (by omega) (by omega) (by omega)
      have ht := hs t.toNat (by omega)
      rw [show ((t.toNat : Nat) : Int) = t by omega] at ht
      obtain ⟨r, ev, hr⟩ := ih (i + 1) (catS x (rdOf ByteArray.empty pieces t)) (by omega) (by rw [size_cat]; omega)
      refine ⟨r, Ev.step (fun k => ammonitekeep_Text_Text.l0.eq_2 pieces x i seed ops k) ?_, hr⟩
      have e7 : wrap64 ((pieces.length : Int) - 1) = 7 := by rw [hp]; exact (w64 (by omega) (by omega)).trans (by decide)
      rw [e7, show wrap64 ((i : Int) + 1) = ((i + 1 : Nat) : Int) by rw [w64 (by omega) (by omega)]; omega]
      exact Ev.ip (by omega) (Ev.ip (by omega) (Ev.ip (by omega) (Ev.cb e (Ev.ip (by omega) (Ev.ip (by omega) (Ev.ip (by omega) ev))))))
    · exact ⟨x, Ev.step (fun k => ammonitekeep_Text_Text.l0.eq_2 pieces x i seed ops k) (Ev.ip (by omega) (Ev.nn (by omega) (Ev.now _))), hx⟩
theorem text_ev (seed : Int) (ops : List Int) (ho : ops.length ≤ 9223372036854775807) : ∃ r, Ev (fun k => ammonitekeep_Text_Text.f k seed ops) r ∧ r.size < 200 := by
  unfold ammonitekeep_Text_Text.f
  refine text_loop _ rfl ?_ seed ops ho ops.length 0 ⟨#[]⟩ (by omega) (by decide)
  decide
/-! ### keep.Delta -/
/-- The end of a delta. -/
def kend (t x : ByteArray) : ByteArray := catS (catS x (putB (chk (bytesOf t)).toNat)) ⟨#[59]⟩
theorem kdelta2 (t : ByteArray) (ht : t.size ≤ 1000) (n : Nat) (hn : n ≤ t.size) (x : ByteArray) (hx : x.size ≤ 1000) : ∃ r, Ev (fun k => ammonitekeep_Delta.j2 k t n x) r ∧ 1 ≤ r.size ∧ r.size ≤ 4000 := by
  have hc := chk_range (bytesOf t)
  have lc := put6 (n := (chk (bytesOf t)).toNat) (by omega)
  have hput : Ev (fun k => ammoniteref1_Put.f k (chk (bytesOf t))) (putB (chk (bytesOf t)).toNat) := by
    have := rput_ev (chk (bytesOf t)).toNat (by omega)
    rw [show (((chk (bytesOf t)).toNat : Nat) : Int) = chk (bytesOf t) by omega] at this
    exact this
  have s1 : (⟨#[59]⟩ : ByteArray).size = 1 := rfl
  have s2 : (⟨#[58]⟩ : ByteArray).size = 1 := rfl
  by_cases g : n < t.size
  · have l1 := put6 (n := t.size - n) (by omega)
    have sc : (cutS t n t.size).size = t.size - n := size_cut (Nat.le_refl _)
    have key : Ev (fun k => ammonitekeep_Delta.j2 k t n x) (kend t (catS (catS (catS x (putB (t.size - n))) ⟨#[58]⟩) (cutS t n t.size))) := by
      refine Ev.step (fun k => ammonitekeep_Delta.j2.eq_2 t n x k) (Ev.ip (by omega) ?_)
      have e : wrap64 ((t.size : Int) - (n : Int)) = ((t.size - n : Nat) : Int) := by rw [w64 (by omega) (by omega)]; omega
      rw [e]
      refine Ev.bind (rput_ev _ (by omega)) (Ev.ip ?_ (Ev.ip ?_ (Ev.ip (by omega) (Ev.ip (by omega) (Ev.ip ?_ (Ev.bind (rcheck_ev t (by omega)) (Ev.bind hput (Ev.ip ?_ (Ev.ip ?_ (Ev.now _))))))))))
      all_goals (try rw [Int.toNat_natCast])
      all_goals simp only [size_cat, size_put, s1, s2, sc]
      all_goals omega
    refine ⟨_, key, ?_, ?_⟩
    all_goals unfold kend
    all_goals simp only [size_cat, size_put, s1, s2, sc]
    all_goals omega
  · have key : Ev (fun k => ammonitekeep_Delta.j2 k t n x) (kend t x) := by
      refine Ev.step (fun k => ammonitekeep_Delta.j2.eq_2 t n x k) (Ev.nn (by omega) ?_)
      refine Ev.bind (rcheck_ev t (by omega)) (Ev.bind hput (Ev.ip ?_ (Ev.ip ?_ (Ev.now _))))
      all_goals simp only [size_cat, size_put, s1, s2]
      all_goals omega
    refine ⟨_, key, ?_, ?_⟩
    all_goals unfold kend
    all_goals simp only [size_cat, size_put, s1, s2]
    all_goals omega
theorem kdelta1 (t : ByteArray) (ht : t.size ≤ 1000) (at_ : Int) (n : Nat) (hn : n ≤ t.size) : ∃ r, Ev (fun k => ammonitekeep_Delta.j1 k t at_ n) r ∧ 1 ≤ r.size ∧ r.size ≤ 4000 := by
  have s1 : (⟨#[10]⟩ : ByteArray).size = 1 := rfl
  have s2 : (⟨#[64, 48, 44]⟩ : ByteArray).size = 3 := rfl
  have s3 : (⟨#[64]⟩ : ByteArray).size = 1 := rfl
  have s4 : (⟨#[44]⟩ : ByteArray).size = 1 := rfl
  have l0 := put6 (n := t.size) (by omega)
  by_cases g : n > 0
  · obtain ⟨c, e, h0, h1⟩ := within_ev at_ (lo := 0) (hi := wrap64 ((n : Int) - 1)) (by omega) (by rw [w64 (by omega) (by omega)]; omega) (by rw [w64 (by omega) (by omega)]; omega)
    rw [w64 (n := (n : Int) - 1) (by omega) (by omega)] at h1 e
    obtain ⟨c, rfl⟩ : ∃ m : Nat, c = m := ⟨c.toNat, by omega⟩
    have l1 := put6 (n := c) (by omega)
    have l2 := put6 (n := n - c) (by omega)
    have e2 : wrap64 ((n : Int) - (c : Int)) = ((n - c : Nat) : Int) := by rw [w64 (by omega) (by omega)]; omega
    by_cases g2 : c > 0
    · obtain ⟨r, ev, hr⟩ := kdelta2 t ht n hn (catS (catS (catS (catS (catS (catS (catS (putB t.size) ⟨#[10]⟩) (putB c)) ⟨#[64, 48, 44]⟩) (putB (n - c))) ⟨#[64]⟩) (putB c)) ⟨#[44]⟩) (by simp only [size_cat, size_put, s1, s2, s3, s4]; omega)
      refine ⟨r, ?_, hr⟩
      refine Ev.step (fun k => ammonitekeep_Delta.j1.eq_2 t at_ n k) (Ev.bind (rput_ev _ (by omega)) (Ev.ip ?_ (Ev.ip (by omega) ?_)))
      · simp only [size_put]; omega
      rw [w64 (n := (n : Int) - 1) (by omega) (by omega)]
      refine Ev.cb e ?_
      rw [e2]
      refine (Ev.ip (by omega) (Ev.bind (rput_ev _ (by omega)) (Ev.ip ?_ (Ev.ip ?_ (Ev.bind (rput_ev _ (by omega)) (Ev.ip ?_ (Ev.ip ?_ (Ev.ip ?_ (Ev.ip ?_ ev)))))))))
      all_goals simp only [size_cat, size_put, s1, s2, s3, s4]
      all_goals omega
    · obtain ⟨r, ev, hr⟩ := kdelta2 t ht n hn (catS (catS (catS (catS (catS (putB t.size) ⟨#[10]⟩) (putB (n - c))) ⟨#[64]⟩) (putB c)) ⟨#[44]⟩) (by simp only [size_cat, size_put, s1, s2, s3, s4]; omega)
      refine ⟨r, ?_, hr⟩
      refine Ev.step (fun k => ammonitekeep_Delta.j1.eq_2 t at_ n k) (Ev.bind (rput_ev _ (by omega)) (Ev.ip ?_ (Ev.ip (by omega) ?_)))
      · simp only [size_put]; omega
      rw [w64 (n := (n : Int) - 1) (by omega) (by omega)]
      refine Ev.cb e ?_
      rw [e2]
      refine (Ev.nn (by omega) (Ev.bind (rput_ev _ (by omega)) (Ev.ip ?_ (Ev.ip ?_ (Ev.bind (rput_ev _ (by omega)) (Ev.ip ?_ (Ev.ip ?_ ev)))))))
      all_goals simp only [size_cat, size_put, s1, s2, s3, s4]
      all_goals omega
  · obtain ⟨r, ev, hr⟩ := kdelta2 t ht n hn (catS (putB t.size) ⟨#[10]⟩) (by simp only [size_cat, size_put, s1]; omega)
    refine ⟨r, ?_, hr⟩
    refine Ev.step (fun k => ammonitekeep_Delta.j1.eq_2 t at_ n k) (Ev.bind (rput_ev _ (by omega)) (Ev.ip ?_ (Ev.nn (by omega) ev)))
    simp only [size_put]; omega
theorem kdelta0 (s t : ByteArray) (ht : t.size ≤ 1000) (at_ : Int) (d : Nat) : ∀ n : Nat, n + d = t.size → ∃ r, Ev (fun k => ammonitekeep_Delta.l0 k s t at_ n) r ∧ 1 ≤ r.size ∧ r.size ≤ 4000 := by
  induction d with
  | zero =>
    intro n hn
    obtain ⟨r, ev, hr⟩ := kdelta1 t ht at_ n (by omega)
    refine ⟨r, Ev.step (fun k => ammonitekeep_Delta.l0.eq_2 s t at_ n k) ?_, hr⟩
    by_cases g : (n : Int) < (s.size : Int)
    · exact Ev.ip g (Ev.nn (by omega) ev)
    · exact Ev.nn g ev
  | succ d ih =>
    intro n hn
    obtain ⟨r, ev, hr⟩ := kdelta1 t ht at_ n (by omega)
    obtain ⟨r2, ev2, hr2⟩ := ih (n + 1) (by omega)
    by_cases g : (n : Int) < (s.size : Int)
    · by_cases g2 : bt s (n : Int) = bt t (n : Int)
      · refine ⟨r2, Ev.step (fun k => ammonitekeep_Delta.l0.eq_2 s t at_ n k) ?_, hr2⟩
        rw [wnat (by omega)]
        exact Ev.ip g (Ev.ip (by omega) (Ev.ip (by omega) (Ev.ip g2 ev2)))
      · refine ⟨r, Ev.step (fun k => ammonitekeep_Delta.l0.eq_2 s t at_ n k) ?_, hr⟩
        exact Ev.ip g (Ev.ip (by omega) (Ev.ip (by omega) (Ev.nn g2 ev)))
    · exact ⟨r, Ev.step (fun k => ammonitekeep_Delta.l0.eq_2 s t at_ n k) (Ev.nn g ev), hr⟩
theorem kdelta_ev (s t : ByteArray) (ht : t.size ≤ 1000) (at_ : Int) : ∃ r, Ev (fun k => ammonitekeep_Delta.f k s t at_) r ∧ 1 ≤ r.size ∧ r.size ≤ 4000 := kdelta0 s t ht at_ t.size 0 (by omega)
end Go.Proofs.Ytcjkichimndioab.B
