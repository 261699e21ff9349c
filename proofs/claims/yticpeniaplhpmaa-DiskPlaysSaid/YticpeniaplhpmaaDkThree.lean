/- A disk, the document's own and a copy, side by side in one memory. -/
import Derived.Test.YticpeniaplhpmaaAsks
set_option linter.unusedVariables false
set_option linter.unusedSimpArgs false
namespace Go.Proofs.Yticpeniaplhpmaa.Given
open Go.RowKit Go.Proofs.YticpeniaplhpmaaW.PrintWords
/-- The disk at (p, g), the document's at q; they answer alike. -/
structure Both (w : World) (k c p g q : Nat) (v : Value) (D : DS) (R : RS) (W : World) : Prop where
  disk : DiskAt w.heap.size p g D W
  ref : RefAt w.heap.size q v R W
  below : Below w.heap.size w W
  rel : Rel D R
  ok : D.Ok
  rok : R.Ok
  len : D.secs.length = k
  left : -(c : Int) ≤ D.left
  pq : p ≠ q
  gq : g ≠ q
  pv : ∀ x, v.ownBlock = some x → x ≠ p ∧ x ≠ g ∧ x ≠ q
theorem Both.q_lt {w : World} {k c p g q : Nat} {v : Value} {D : DS} {R : RS} {W : World} (h : Both w k c p g q v D R W) : q < W.heap.size := (Array.getElem?_eq_some_iff.1 h.ref.2.1).1
theorem Both.v_lt {w : World} {k c p g q : Nat} {v : Value} {D : DS} {R : RS} {W : World} (h : Both w k c p g q v D R W) (x : Nat) (hx : v.ownBlock = some x) : x < W.heap.size := (h.ref.2.2.lt x hx).2
theorem Both.step {w : World} {k c p g q : Nat} {v : Value} {D : DS} {R : RS} {W W' : World} (h : Both w k c p g q v D R W) (hc : Below W.heap.size W W') : Both w k c p g q v D R W' :=
  ⟨h.disk.ch (S := fun _ => False) (Ch.of_new hc) id id, h.ref.ch (S := fun _ => False) (Ch.of_new hc) id (fun _ _ => id), h.below.trans (hc.mono h.below.size), h.rel, h.ok, h.rok, h.len, h.left, h.pq, h.gq, h.pv⟩
/-- A step at blocks of another's. -/
theorem Both.other {w : World} {k c p g q : Nat} {v : Value} {D : DS} {R : RS} {W W' : World} {S : Nat → Prop} (h : Both w k c p g q v D R W) (hc : Ch S W W') (hS : ∀ i, S i → w.heap.size ≤ i) (hp : ¬ S p) (hg : ¬ S g) (hq : ¬ S q) (hv : ∀ x, v.ownBlock = some x → ¬ S x) : Both w k c p g q v D R W' :=
  ⟨h.disk.ch hc hp hg, h.ref.ch hc hq hv, hc.below h.below (Nat.le_refl _) hS, h.rel, h.ok, h.rok, h.len, h.left, h.pq, h.gq, h.pv⟩
theorem wlen (D : DS) (i : Int) (data : ByteArray) : (D.write i data).2.secs.length = D.secs.length := by
  unfold DS.write
  split
  · split <;> simp
  · rfl
/-- The first one and a copy of it, at (p', g'). -/
structure Three (w : World) (k c p g q : Nat) (v : Value) (D : DS) (R : RS) (p' g' : Nat) (C : DS) (W : World) : Prop where
  both : Both w k c p g q v D R W
  copy : DiskAt w.heap.size p' g' C W
  cok : C.Ok
  cl : -4611686018427387904 < C.left
  pp : p ≠ p' ∧ p ≠ g' ∧ g ≠ p' ∧ g ≠ g' ∧ q ≠ p' ∧ q ≠ g'
  vv : ∀ x, v.ownBlock = some x → x ≠ p' ∧ x ≠ g'
/-- The disk's own step. -/
theorem Three.own {w : World} {k c c2 p g q : Nat} {v : Value} {D D' : DS} {R : RS} {p' g' : Nat} {C : DS} {W W' : World} (h : Three w k c p g q v D R p' g' C W) (hd : DiskAt w.heap.size p g D' W') (hc : Ch (Own p g) W W') :
    DiskAt w.heap.size p g D' W' ∧ RefAt w.heap.size q v R W' ∧ DiskAt w.heap.size p' g' C W' ∧ Below w.heap.size w W' := by
  obtain ⟨hb, h2, h3, h4, h5, h6⟩ := h
  refine ⟨hd, hb.ref.ch hc (by rintro (e | e); exact hb.pq e.symm; exact hb.gq e.symm) (fun x hx => ?_), h2.ch hc (by rintro (e | e); exact h5.1 e.symm; exact h5.2.2.1 e.symm) (by rintro (e | e); exact h5.2.1 e.symm; exact h5.2.2.2.1 e.symm), hc.below hb.below (Nat.le_refl _) ?_⟩
  · rintro (e | e)
    · exact (hb.pv x hx).1 e
    · exact (hb.pv x hx).2.1 e
  · rintro i (rfl | rfl)
    · exact hb.disk.1
    · exact hb.disk.g.1
theorem three_copy {w : World} {k c p g q : Nat} {v : Value} {D : DS} {R : RS} {W : World} (h : Both w k c p g q v D R W) (hc : c ≤ 30) :
    Calls Try.prog 16 #[.pointer (some ⟨p, 0, none⟩)] W fun e W' => ∃ p' g', e = .returned (.pointer (some ⟨p', 0, none⟩)) ∧ Three w k c p g q v D R p' g' D W' ∧ Below W.heap.size W W' := by
  refine (copy_call h.disk h.ok).mono ?_
  rintro e W' ⟨p', g', rfl, hd, hb⟩
  have hs := h.below.size
  obtain ⟨g1, g2, g3, g4⟩ := hd.g
  have e1 := hd.1
  obtain ⟨d1, d2, d3, d4⟩ := h.disk.g
  have q1 := h.q_lt
  refine ⟨p', g', rfl, ⟨h.step hb, ?_, h.ok, by have := h.left; omega, ⟨by omega, by omega, by omega, by omega, by omega, by omega⟩, fun x hx => by have := h.v_lt x hx; exact ⟨by omega, by omega⟩⟩, hb⟩
  obtain ⟨a1, cap, a2, a3⟩ := hd
  exact ⟨Nat.le_trans hs a1, cap, a2, own_mono a3 hs⟩
theorem three_arm {w : World} {k c p g q : Nat} {v : Value} {D : DS} {R : RS} {p' g' : Nat} {C : DS} {W : World} (h : Three w k c p g q v D R p' g' C W) (n m : Int) (hn : n ≤ 9223372036854775807) :
    Calls Try.prog 8 #[.pointer (some ⟨p, 0, none⟩), .int .i64 n, .int .i64 m] W fun e W' => e = .returned (.tuple #[]) ∧
      Ch (Own p g) W W' ∧ DiskAt w.heap.size p g (D.arm n m) W' ∧ RefAt w.heap.size q v R W' ∧ DiskAt w.heap.size p' g' C W' ∧ Below w.heap.size w W' :=
  (arm_call h.both.disk n m).mono fun e W' x => ⟨x.1, x.2.2, h.own (c2 := c) x.2.1 x.2.2⟩
theorem three_rev {w : World} {k c p g q : Nat} {v : Value} {D : DS} {R : RS} {p' g' : Nat} {C : DS} {W : World} (h : Three w k c p g q v D R p' g' C W) :
    Calls Try.prog 14 #[.pointer (some ⟨p, 0, none⟩)] W fun e W' => e = .returned (.tuple #[]) ∧
      DiskAt w.heap.size p g D.revive W' ∧ RefAt w.heap.size q v R W' ∧ DiskAt w.heap.size p' g' C W' ∧ Below w.heap.size w W' :=
  (revive_call h.both.disk).mono fun e W' x => ⟨x.1, h.own (c2 := c) x.2.1 x.2.2⟩
/-- Behind the disk's write, ahead of the document's. -/
structure Mid (w : World) (k c p g q : Nat) (v : Value) (D : DS) (R : RS) (p' g' : Nat) (C : DS) (i : Int) (data : ByteArray) (W : World) : Prop where
  disk : DiskAt w.heap.size p g (D.write i data).2 W
  ref : RefAt w.heap.size q v R W
  copy : DiskAt w.heap.size p' g' C W
  below : Below w.heap.size w W
theorem three_write {w : World} {k c p g q : Nat} {v : Value} {D : DS} {R : RS} {p' g' : Nat} {C : DS} {W : World} (h : Three w k c p g q v D R p' g' C W) (i : Int) (data : ByteArray) (h0 : -9223372036854775808 ≤ i) (h1 : i ≤ 9223372036854775807) (hs : data.size ≤ 9223372036854775807) :
    Calls Try.prog 9 #[.pointer (some ⟨p, 0, none⟩), .int .i64 i, .string data] W fun e W' => e = .returned (.bool (D.write i data).1) ∧ Mid w k c p g q v D R p' g' C i data W' := by
  refine (write_call h.both.disk h.both.ok i data (wfn h0 h1) hs).mono ?_
  rintro e W' ⟨rfl, a, b⟩
  obtain ⟨x1, x2, x3, x4⟩ := h.own (c2 := c) a b
  exact ⟨rfl, x1, x2, x3, x4⟩
/-- Both have written. -/
theorem mid_write {w : World} {k c p g q : Nat} {v : Value} {D : DS} {R : RS} {p' g' : Nat} {C : DS} {W0 W : World} {i : Int} {data : ByteArray} (h0 : Three w k c p g q v D R p' g' C W0) (h : Mid w k c p g q v D R p' g' C i data W) (hc : c ≤ 30) (hs : data.size ≤ 9223372036854775807) :
    Calls Try.prog 17 #[.pointer (some ⟨q, 0, none⟩), .int .i64 i, .string data] W fun e W' => e = .returned (.bool (D.write i data).1) ∧ ∃ v', Three w k (c + 1) p g q v' (D.write i data).2 (R.write i data).2 p' g' C W' := by
  obtain ⟨y1, y2⟩ := rel_write h0.both.rel i data
  refine (rwrite_call h.ref h.below.size h0.both.rok i data hs).mono ?_
  rintro e W' ⟨rfl, ch, v', hr, hv⟩
  have hb := h0.both
  have gd := h.disk.g
  have gc := h.copy.g
  have ql : q < W.heap.size := (Array.getElem?_eq_some_iff.1 h.ref.2.1).1
  obtain ⟨p1, p2, p3, p4, p5, p6⟩ := h0.pp
  have hl := hb.left
  refine ⟨by rw [y1], v', ⟨h.disk.ch ch (fun e => hb.pq e) (fun e => hb.gq e), hr, ch.below h.below (Nat.le_refl _) (by rintro i rfl; exact h.ref.1), y2, write_ok hb.ok (by omega) i data, rwrite_ok hb.rok i data, by rw [wlen]; exact hb.len, ?_, hb.pq, hb.gq, ?_⟩, h.copy.ch ch (fun e => p5 e.symm) (fun e => p6 e.symm), h0.cok, h0.cl, h0.pp, ?_⟩
  · have := write_left (D := D) i data c hl (by omega)
    have e : ((c + 1 : Nat) : Int) = (c : Int) + 1 := by omega
    rw [e]
    exact this
  · intro x hx
    rcases hv with rfl | hv
    · exact hb.pv x hx
    · have := hv x hx
      exact ⟨by omega, by omega, by omega⟩
  · intro x hx
    rcases hv with rfl | hv
    · exact h0.vv x hx
    · have := hv x hx
      exact ⟨by omega, by omega⟩
/-- Both again, behind a turn of the two. -/
theorem Three.turn {w : World} {k c p g q : Nat} {v : Value} {D D' : DS} {R R' : RS} {p' g' : Nat} {C : DS} {W0 W : World} (h : Three w k c p g q v D R p' g' C W0) (h1 : DiskAt w.heap.size p g D' W) (h2 : RefAt w.heap.size q v R' W) (h3 : DiskAt w.heap.size p' g' C W) (h4 : Below w.heap.size w W)
    (r : Rel D' R') (o : D'.Ok) (ro : R'.Ok) (l : D'.secs.length = k) (hl : -((c + 1 : Nat) : Int) ≤ D'.left) : Three w k (c + 1) p g q v D' R' p' g' C W :=
  ⟨⟨h1, h2, h4, r, o, ro, l, hl, h.both.pq, h.both.gq, h.both.pv⟩, h3, h.cok, h.cl, h.pp, h.vv⟩
/-- A store into the document's disk. -/
theorem ref_set {w : World} {q j p g p' g' : Nat} {v u : Value} {D C : DS} {R R' : RS} {W : World} (hd : DiskAt w.heap.size p g D W) (hrf : RefAt w.heap.size q v R W) (hcp : DiskAt w.heap.size p' g' C W) (hbl : Below w.heap.size w W)
    (hs : R'.secs = R.secs) (hp : p ≠ q) (hg : g ≠ q) (hp' : q ≠ p') (hg' : q ≠ g') (hq : ∀ x, v.ownBlock = some x → x ≠ q)
    (hv : (#[v, .int .i64 R.left, .int .i64 R.keep, .bool R.down] : Array Value).setIfInBounds j u = #[v, .int .i64 R'.left, .int .i64 R'.keep, .bool R'.down]) :
    DiskAt w.heap.size p g D (W.setCell ⟨q, j, none⟩ u) ∧ RefAt w.heap.size q v R' (W.setCell ⟨q, j, none⟩ u) ∧ DiskAt w.heap.size p' g' C (W.setCell ⟨q, j, none⟩ u) ∧ Below w.heap.size w (W.setCell ⟨q, j, none⟩ u) := by
  have hc : Ch (fun i => i = q) W (W.setCell ⟨q, j, none⟩ u) := Ch.set (S := fun i => i = q) (Ch.refl _ W) ⟨q, j, none⟩ rfl u
  exact ⟨hd.ch hc hp hg, hrf.put hs hq hv, hcp.ch hc (fun e => hp' e.symm) (fun e => hg' e.symm), hc.below hbl (Nat.le_refl _) (by rintro i rfl; exact hrf.1)⟩
theorem Three.rev2 {w : World} {k c p g q : Nat} {v : Value} {D : DS} {R : RS} {p' g' : Nat} {C : DS} {W0 W : World} (h : Three w k c p g q v D R p' g' C W0) (hd : DiskAt w.heap.size p g D.revive W) (hrf : RefAt w.heap.size q v R W) (hcp : DiskAt w.heap.size p' g' C W) (hbl : Below w.heap.size w W) :
    Three w k (c + 1) p g q v D.revive R.revive p' g' C (W.setCell ⟨q, 3, none⟩ (.bool false)) := by
  obtain ⟨p1, p2, p3, p4, p5, p6⟩ := h.pp
  obtain ⟨x1, x2, x3, x4⟩ := ref_set (R' := R.revive) (u := .bool false) (j := 3) hd hrf hcp hbl rfl h.both.pq h.both.gq p5 p6 (fun x hx => (h.both.pv x hx).2.2) rfl
  have hl := h.both.left
  exact h.turn x1 x2 x3 x4 (rel_revive h.both.rel) (revive_ok h.both.ok) (rrevive_ok h.both.rok) h.both.len (by show _ ≤ D.left; omega)
theorem Three.arm2 {w : World} {k c p g q : Nat} {v : Value} {D : DS} {R : RS} {p' g' : Nat} {C : DS} {W0 W : World} {n m : Int} (h : Three w k c p g q v D R p' g' C W0) (hn : n ≤ 9223372036854775807) (hd : DiskAt w.heap.size p g (D.arm n m) W) (hrf : RefAt w.heap.size q v R W) (hcp : DiskAt w.heap.size p' g' C W) (hbl : Below w.heap.size w W) :
    Three w k (c + 1) p g q v (D.arm n m) (R.arm n m) p' g' C ((W.setCell ⟨q, 1, none⟩ (.int .i64 (max n 0))).setCell ⟨q, 2, none⟩ (.int .i64 (min (max m 0) 32))) := by
  obtain ⟨p1, p2, p3, p4, p5, p6⟩ := h.pp
  obtain ⟨x1, x2, x3, x4⟩ := ref_set (R' := { R with left := max n 0 }) (u := .int .i64 (max n 0)) (j := 1) hd hrf hcp hbl rfl h.both.pq h.both.gq p5 p6 (fun x hx => (h.both.pv x hx).2.2) rfl
  obtain ⟨x1, x2, x3, x4⟩ := ref_set (R' := R.arm n m) (u := .int .i64 (min (max m 0) 32)) (j := 2) x1 x2 x3 x4 rfl h.both.pq h.both.gq p5 p6 (fun x hx => (h.both.pv x hx).2.2) rfl
  have hl := h.both.left
  exact h.turn x1 x2 x3 x4 (rel_arm h.both.rel n m) (arm_ok h.both.ok n m hn) (rarm_ok h.both.rok n m hn) h.both.len (by show _ ≤ max n 0; omega)
/-- The copy is by itself. -/
theorem Three.drop {w : World} {k c p g q : Nat} {v : Value} {D : DS} {R : RS} {p' g' : Nat} {C : DS} {W W' : World} (h : Three w k c p g q v D R p' g' C W) (hc : Ch (Own p' g') W W') : Both w k c p g q v D R W' := by
  obtain ⟨p1, p2, p3, p4, p5, p6⟩ := h.pp
  refine h.both.other hc ?_ ?_ ?_ ?_ ?_
  · rintro i (rfl | rfl)
    · exact h.copy.1
    · exact h.copy.g.1
  · rintro (e | e); exact p1 e; exact p2 e
  · rintro (e | e); exact p3 e; exact p4 e
  · rintro (e | e); exact p5 e; exact p6 e
  · rintro x hx (e | e); exact (h.vv x hx).1 e; exact (h.vv x hx).2 e
theorem Three.drew {w : World} {k c p g q : Nat} {v : Value} {D : DS} {R : RS} {p' g' : Nat} {C : DS} {W : World} (h : Three w k c p g q v D R p' g' C W) : Three w k c p g q v D R p' g' C W.drew :=
  ⟨h.both.step (Drawn0.below ⟨⟨1, rfl⟩⟩), h.copy.ch (S := fun _ => False) (Ch.of_drawn ⟨⟨1, rfl⟩⟩) id id, h.cok, h.cl, h.pp, h.vv⟩
theorem three_crev {w : World} {k c p g q : Nat} {v : Value} {D : DS} {R : RS} {p' g' : Nat} {C : DS} {W : World} (h : Three w k c p g q v D R p' g' C W) :
    Calls Try.prog 14 #[.pointer (some ⟨p', 0, none⟩)] W fun e W' => e = .returned (.tuple #[]) ∧ Three w k c p g q v D R p' g' C.revive W' :=
  (revive_call h.copy).mono fun e W' x => ⟨x.1, h.drop x.2.2, x.2.1, revive_ok h.cok, h.cl, h.pp, h.vv⟩
theorem three_cwrite {w : World} {k c p g q : Nat} {v : Value} {D : DS} {R : RS} {p' g' : Nat} {C : DS} {W : World} (h : Three w k c p g q v D R p' g' C W) (data : ByteArray) (hs : data.size ≤ 9223372036854775807) :
    Calls Try.prog 9 #[.pointer (some ⟨p', 0, none⟩), .int .i64 0, .string data] W fun e W' => (∃ b, e = .returned (.bool b)) ∧ Both w k c p g q v D R W' :=
  (write_call h.copy h.cok 0 data rfl hs).mono fun e W' x => ⟨⟨_, x.1⟩, h.drop x.2.2⟩
theorem both_down {w : World} {k c p g q : Nat} {v : Value} {D : DS} {R : RS} {W : World} (h : Both w k c p g q v D R W) :
    Calls Try.prog 11 #[.pointer (some ⟨p, 0, none⟩)] W fun e W' => e = .returned (.bool D.down) ∧ Both w k c p g q v D R W' :=
  (down_call h.disk).mono fun e W' x => ⟨x.1, h.step x.2.below⟩
theorem both_sectors {w : World} {k c p g q : Nat} {v : Value} {D : DS} {R : RS} {W : World} (h : Both w k c p g q v D R W) :
    Calls Try.prog 12 #[.pointer (some ⟨p, 0, none⟩)] W fun e W' => e = .returned (.int .i64 k) ∧ Both w k c p g q v D R W' :=
  (sectors_call h.disk).mono fun e W' x => ⟨by rw [x.1, h.len], h.step x.2.below⟩
theorem both_read {w : World} {k c p g q : Nat} {v : Value} {D : DS} {R : RS} {W : World} (h : Both w k c p g q v D R W) (i : Int) :
    Calls Try.prog 10 #[.pointer (some ⟨p, 0, none⟩), .int .i64 i] W fun e W' => e = .returned (.tuple #[.string (D.read i).1, .bool (D.read i).2]) ∧ Both w k c p g q v D R W' :=
  (read_call h.disk h.ok i).mono fun e W' x => ⟨x.1, h.step x.2.below⟩
theorem both_downq {w : World} {k c p g q : Nat} {v : Value} {D : DS} {R : RS} {W : World} (h : Both w k c p g q v D R W) (n : Nat) :
    Calls Try.prog 11 #[.pointer (some ⟨p, 0, none⟩)] (W.drewN n) fun e W' => e = .returned (.bool D.down) ∧ ∃ m, W' = W.drewN m :=
  Calls.quiet_of ((down_call (h.disk.ch (S := fun _ => False) (Ch.of_drawn ⟨⟨n, rfl⟩⟩) id id)).mono fun e W' x => ⟨x.1, x.2.out⟩)
theorem both_sectorsq {w : World} {k c p g q : Nat} {v : Value} {D : DS} {R : RS} {W : World} (h : Both w k c p g q v D R W) (n : Nat) :
    Calls Try.prog 12 #[.pointer (some ⟨p, 0, none⟩)] (W.drewN n) fun e W' => e = .returned (.int .i64 k) ∧ ∃ m, W' = W.drewN m :=
  Calls.quiet_of ((sectors_call (h.disk.ch (S := fun _ => False) (Ch.of_drawn ⟨⟨n, rfl⟩⟩) id id)).mono fun e W' x => ⟨by rw [x.1, h.len], x.2.out⟩)
theorem both_readx {w : World} {k c p g q : Nat} {v : Value} {D : DS} {R : RS} {W : World} {i : Int} {s : ByteArray} {b : Bool} (h : Both w k c p g q v D R W) (hr : D.read i = (s, b)) :
    Calls Try.prog 10 #[.pointer (some ⟨p, 0, none⟩), .int .i64 i] W fun e W' => e = .returned (.tuple #[.string s, .bool b]) ∧ Both w k c p g q v D R W' :=
  (both_read h i).mono fun e W' x => ⟨by rw [x.1, hr], x.2⟩
theorem both_runs {w : World} {k c p g q : Nat} {v : Value} {D : DS} {R : RS} {W : World} (h : Both w k c p g q v D R W) :
    Calls Try.prog 3 #[] W fun e W' => e = .returned (.bool true) ∧ Below w.heap.size w W' :=
  (runs_walk W).mono fun e W' x => ⟨x.1, h.below.trans (x.2.mono h.below.size)⟩
/-- What the document's cells hold. -/
theorem Both.cells {w : World} {k c p g q : Nat} {v : Value} {D : DS} {R : RS} {W : World} (h : Both w k c p g q v D R W) : ∃ gv cap, k ≤ cap ∧ cap ≤ maxLen ∧ W.cell? ⟨q, 0, none⟩ = some (.slice (some ⟨gv, 0, none⟩) k cap) ∧ W.cell? ⟨q, 3, none⟩ = some (.bool D.down) ∧ ∀ j, j < k → W.cell? ⟨gv, j, none⟩ = some (.string (D.secs.getD j ⟨#[]⟩)) := by
  obtain ⟨gv, cap, rfl, c1, c2, _, _, _, _, c3, _, _, c4, _, c5⟩ := h.ref.open h.rok
  rw [h.rel.secs, h.len] at c1 c3
  rw [h.rel.down] at c4
  rw [h.rel.secs, h.len] at c5
  exact ⟨gv, cap, c1, c2, c3, c4, c5⟩
end Go.Proofs.Yticpeniaplhpmaa.Given
