/- The plain law of wire.Right: may a message be? -/
import Derived.Test.YtldbhkhblkgnnaaPFiles
import Derived.Test.YtldbhkhblkgnnaaPWord
import Derived.Test.YtldbhkhblkgnnaaVx1
set_option linter.unusedVariables false
set_option linter.unusedSimpArgs false
namespace Go.Proofs.Ytldbhkhblkgnnaa.B
open Go.RowKit Go.Proofs.Ytldbhkhblkgnnaa.PW Go.Proofs.Ytldbhkhblkgnnaa.Given Go.Proofs.Ytldbhkhblkgnnaa.Q Go.Proofs.YtldbhkhblkgnnaaW.PrintWords Go.Proofs.YtldbhkhblkgnnaaW.PrintMore
/-- Do names rise? -/
def namesOk (p : Option ByteArray) : List ByteArray → Bool
  | [] => true
  | s :: r => isN (bytesOf s) && ((match p with | none => true | some q => Op.bytesLess q.toList s.toList) && namesOk (some s) r)
theorem names_loop (l : List ByteArray) (hn : l.length ≤ 1000000) (hs : ∀ s ∈ l, s.size ≤ 1000000) (r : List ByteArray) : ∀ (i : Nat) (p : Option ByteArray), l.drop i = r → i ≤ l.length → Pre l ByteArray.empty i p →
    Ev (fun k => wire_names.l0 k l l l.length i) (namesOk p r && decide (l.length ≤ 40)) := by
  induction r with
  | nil =>
    intro i p hl hi hp
    have he := drop_end hl hi
    refine Ev.step (fun k => wire_names.l0.eq_2 l l l.length i k) (Ev.nn (by omega) (Ev.eq ?_ (Ev.now _)))
    unfold namesOk
    rw [Bool.true_and]
    exact decide_eq_decide.2 (by omega)
  | cons s r ih =>
    intro i p hl hi hp
    obtain ⟨h1, h2, h3⟩ := drop_at ByteArray.empty hl
    have hmem : s ∈ l := List.mem_of_mem_drop (i := i) (by rw [hl]; exact List.mem_cons_self ..)
    have key := ih (i + 1) (some s) h3 h1 (Pre.next h2)
    refine Ev.step (fun k => wire_names.l0.eq_2 l l l.length i k) (Ev.ip (by omega) (Ev.ip (by omega) (Ev.ip (by omega) ?_)))
    rw [rd_at, h2]
    refine Ev.bind (is_ev s (by have := hs s hmem; omega)) ?_
    rw [show wrap64 ((i : Int) + 1) = ((i + 1 : Nat) : Int) by rw [w64 (by omega) (by omega)]; omega]
    unfold namesOk
    by_cases hx : isN (bytesOf s) = true
    · refine Ev.ip hx ?_
      rw [hx, Bool.true_and]
      rcases hp with ⟨h0, rfl⟩ | ⟨h0, rfl⟩
      · refine Ev.nn (by omega) ?_
        simpa using key
      · refine Ev.ip (by omega) ?_
        rw [show wrap64 ((i : Int) - 1) = ((i - 1 : Nat) : Int) by rw [w64 (by omega) (by omega)]; omega, rd_at]
        refine Ev.ip (by omega) (Ev.ip (by omega) ?_)
        dsimp only
        by_cases hb : Op.bytesLess (l.getD (i - 1) ByteArray.empty).toList s.toList = true
        · refine Ev.ip hb ?_
          rw [hb, Bool.true_and]
          exact key
        · refine Ev.nn hb (Ev.eq ?_ (Ev.now _))
          have hb := Bool.eq_false_iff.2 hb
          rw [hb]
          rfl
    · refine Ev.nn hx (Ev.eq ?_ (Ev.now _))
      simp at hx
      rw [hx]
      rfl
def namesB (l : List ByteArray) : Bool := namesOk none l && decide (l.length ≤ 40)
theorem names_ev (l : List ByteArray) (hn : l.length ≤ 1000000) (hs : ∀ s ∈ l, s.size ≤ 1000000) : Ev (fun k => wire_names.f k l) (namesB l) := names_loop l hn hs l 0 none rfl (by omega) (.inl ⟨rfl, rfl⟩)
theorem files_ev (l : List S46) (hn : l.length ≤ 1000000) (hs : ∀ f ∈ l, f.f1.size ≤ 1000000 ∧ f.f2.size ≤ 1000000 ∧ f.f3.size ≤ 1000000) : Ev (fun _ => Given.wire_files.f l) (filesB l) := by
  refine Ev.co ?_
  unfold Given.wire_files.f
  rw [if_pos (Given.fsmall_to hn hs)]
/-- May a message be? -/
def rightB (u s : ByteArray) (rd : Int) (ig gi : List ByteArray) (fs : List S46) (er : Int) : Bool :=
  (if s.size = 0 then decide (u.size = 0) else isN (bytesOf s) && wordB (bytesOf u)) && (decide (0 ≤ rd) && (decide (rd ≤ 1073741824) && (namesB ig && (namesB gi && (filesB fs && (decide (0 ≤ er) && decide (er ≤ 9)))))))
theorem right_ev (u s : ByteArray) (rd : Int) (a b c : Bool) (ig gi : List ByteArray) (fs : List S46) (er : Int) (hu : u.size ≤ 1000000) (hss : s.size ≤ 1000000) (hi : ig.length ≤ 1000000) (his : ∀ s ∈ ig, s.size ≤ 1000000) (hg : gi.length ≤ 1000000) (hgs : ∀ s ∈ gi, s.size ≤ 1000000)
    (hn : fs.length ≤ 1000000) (hs : ∀ f ∈ fs, f.f1.size ≤ 1000000 ∧ f.f2.size ≤ 1000000 ∧ f.f3.size ≤ 1000000) : Ev (fun k => wire_Right.f k u s rd a b c ig gi fs er) (rightB u s rd ig gi fs er) := by
  have joint : ∀ x : Bool, Ev (fun k => wire_Right.j0 k x u s rd a b c ig gi fs er) (!x && (decide (0 ≤ rd) && (decide (rd ≤ 1073741824) && (namesB ig && (namesB gi && (filesB fs && (decide (0 ≤ er) && decide (er ≤ 9)))))))) := by
    intro x
    refine Ev.step (fun k => wire_Right.j0.eq_2 x u s rd a b c ig gi fs er k) ?_
    cases x with
    | true => exact Ev.ip rfl (Ev.now _)
    | false =>
      refine Ev.nn (by decide) ?_
      rw [Bool.not_false, Bool.true_and]
      by_cases b1 : rd ≥ 0
      · refine Ev.ip b1 ?_
        rw [decide_eq_true (show 0 ≤ rd from b1), Bool.true_and]
        by_cases b2 : rd ≤ 1073741824
        · refine Ev.ip b2 ?_
          rw [decide_eq_true b2, Bool.true_and]
          refine Ev.bind (names_ev ig hi his) ?_
          cases namesB ig with
          | false => exact Ev.nn (by decide) (Ev.now _)
          | true =>
            refine Ev.ip rfl (Ev.bind (names_ev gi hg hgs) ?_)
            cases namesB gi with
            | false => exact Ev.nn (by decide) (Ev.now _)
            | true =>
              refine Ev.ip rfl (Ev.bind (files_ev fs hn hs) ?_)
              cases filesB fs with
              | false => exact Ev.nn (by decide) (Ev.now _)
              | true =>
                refine Ev.ip rfl ?_
                by_cases b3 : er ≥ 0
                · refine Ev.ip b3 (Ev.eq ?_ (Ev.now _))
                  rw [decide_eq_true (show 0 ≤ er from b3)]
                  rfl
                · refine Ev.nn b3 (Ev.eq ?_ (Ev.now _))
                  rw [decide_eq_false (show ¬ 0 ≤ er from b3)]
                  rfl
        · refine Ev.nn b2 (Ev.eq ?_ (Ev.now _))
          rw [decide_eq_false b2]
          rfl
      · refine Ev.nn b1 (Ev.eq ?_ (Ev.now _))
        rw [decide_eq_false (show ¬ 0 ≤ rd from b1)]
        rfl
  unfold wire_Right.f rightB
  by_cases c1 : s.toList = []
  · refine Ev.ip c1 ?_
    rw [if_pos (toList_size.1 c1)]
    by_cases c2 : u.toList = []
    · refine Ev.ip c2 (Ev.eq ?_ (joint false))
      rw [decide_eq_true (toList_size.1 c2)]
      rfl
    · refine Ev.nn c2 (Ev.eq ?_ (joint true))
      rw [decide_eq_false (fun z => c2 (toList_size.2 z))]
      rfl
  · refine Ev.nn c1 ?_
    rw [if_neg (fun z => c1 (toList_size.2 z))]
    refine Ev.bind (is_ev s (by omega)) ?_
    by_cases hx : isN (bytesOf s) = true
    · refine Ev.ip hx (Ev.bind (word_ev u (by omega)) ?_)
      refine Ev.eq ?_ (joint _)
      rw [hx, Bool.not_not, Bool.true_and]
    · refine Ev.nn hx (Ev.eq ?_ (joint true))
      simp at hx
      rw [hx]
      rfl
end Go.Proofs.Ytldbhkhblkgnnaa.B
