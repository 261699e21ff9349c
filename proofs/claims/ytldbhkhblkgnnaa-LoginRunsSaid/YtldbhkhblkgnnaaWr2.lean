/- wire.Body: what a message says. -/
import Derived.Test.YtldbhkhblkgnnaaWr1
import Derived.Deep.RegionLaw
import Derived.StillTailTactics
import Derived.Deep.RegionHeld3
import Derived.Outline
set_option linter.unusedVariables false
set_option linter.unusedSimpArgs false
namespace Go.Proofs.Ytldbhkhblkgnnaa.Given
open Go.RowKit Go.Proofs.YtldbhkhblkgnnaaW.PrintWords Go.Proofs.Ytldbhkhblkgnnaa.Q
abbrev SF := S46
/-- Texts, one behind the other. -/
def catL (l : List ByteArray) : ByteArray := l.foldl (· ++ ·) ⟨#[]⟩
theorem catL_snoc (l : List ByteArray) (x : ByteArray) : catL (l ++ [x]) = catL l ++ x := by simp [catL, List.foldl_append]
theorem catL_two (l : List ByteArray) (x y : ByteArray) : catL (l ++ [x, y]) = catL l ++ x ++ y := by simp [catL, List.foldl_append]
abbrev RND : ByteArray := ⟨#[114, 111, 117, 110, 100]⟩
abbrev ANS : ByteArray := ⟨#[97, 110, 115, 119, 101, 114]⟩
abbrev PSH : ByteArray := ⟨#[112, 117, 115, 104]⟩
abbrev PLL : ByteArray := ⟨#[112, 117, 108, 108]⟩
abbrev IGT : ByteArray := ⟨#[105, 103, 111, 116]⟩
abbrev GIM : ByteArray := ⟨#[103, 105, 109, 109, 101]⟩
abbrev ERR : ByteArray := ⟨#[101, 114, 114, 111, 114]⟩
def kindsL : List ByteArray := [⟨#[]⟩, ⟨#[102, 105, 108, 101]⟩, ⟨#[100, 101, 108, 116, 97]⟩, ⟨#[112, 114, 101, 115, 115]⟩]
def fileW (f : SF) : List ByteArray := [kindsL.getD f.f0.toNat ⟨#[]⟩, f.f1] ++ (if f.f0 = 2 then [f.f2] else []) ++ [decT f.f3.size]
def filesL (fs : List SF) : List ByteArray := fs.flatMap fun f => [lineB (fileW f), f.f3 ++ ⟨#[10]⟩]
def flagL (b : Bool) (x : ByteArray) : List ByteArray := if b then [lineB [x]] else []
def headL (rd : Int) (an pu pl : Bool) : List ByteArray := [lineB [RND, decT rd]] ++ flagL an ANS ++ flagL pu PSH ++ flagL pl PLL
/-- The beginning, so many flags having been asked. -/
def headN (rd : Int) (an pu pl : Bool) : Nat → List ByteArray
  | 0 => [lineB [RND, decT rd]]
  | 1 => [lineB [RND, decT rd]] ++ flagL an ANS
  | 2 => [lineB [RND, decT rd]] ++ flagL an ANS ++ flagL pu PSH
  | _ => headL rd an pu pl
theorem catL_flag (l : List ByteArray) (b : Bool) (x : ByteArray) : catL (l ++ flagL b x) = if b then catL l ++ lineB [x] else catL l := by
  cases b
  · simp [flagL]
  · simp [flagL, catL_snoc]
def bodyL (rd : Int) (an pu pl : Bool) (ig gi : List ByteArray) (fs : List SF) (er : Int) : List ByteArray :=
  headL rd an pu pl ++ ig.map (fun x => lineB [IGT, x]) ++ gi.map (fun x => lineB [GIM, x]) ++ filesL fs ++ (if er = 0 then [] else [lineB [ERR, decT er]])
/-- What a message says, its login apart. -/
def bodyB (rd : Int) (an pu pl : Bool) (ig gi : List ByteArray) (fs : List SF) (er : Int) : ByteArray := catL (bodyL rd an pu pl ig gi fs er)
/-! ### what is known of a message that may be -/
theorem isN_size {s : ByteArray} (h : B.isN (bytesOf s) = true) : s.size = 40 := by
  unfold B.isN at h
  have := (of_decide_eq_true h).2
  rwa [B.size_len] at this
theorem names_mem : ∀ (l : List ByteArray) (p : Option ByteArray), B.namesOk p l = true → ∀ s ∈ l, B.isN (bytesOf s) = true := by
  intro l
  induction l with
  | nil => intro p _ s hs; cases hs
  | cons a l ih =>
    intro p h s hs
    unfold B.namesOk at h
    simp only [Bool.and_eq_true] at h
    cases hs with
    | head => exact h.1
    | tail _ hs => exact ih _ h.2.2 s hs
theorem namesB_facts {l : List ByteArray} (h : B.namesB l = true) : l.length ≤ 40 ∧ ∀ s ∈ l, s.size = 40 := by
  unfold B.namesB at h
  simp only [Bool.and_eq_true, decide_eq_true_eq] at h
  exact ⟨h.2, fun s hs => isN_size (names_mem l none h.1 s hs)⟩
/-- A file that may be sent. -/
structure FileFit (f : SF) : Prop where
  k0 : 1 ≤ f.f0
  k1 : f.f0 ≤ 3
  name : f.f1.size = 40
  base : f.f2.size ≤ 40
  data : f.f3.size ≤ 600
theorem files_mem : ∀ (l : List SF) (p : Option SF), B.filesOk p l = true → ∀ f ∈ l, FileFit f := by
  intro l
  induction l with
  | nil => intro p _ s hs; cases hs
  | cons a l ih =>
    intro p h f hf
    unfold B.filesOk B.fileA B.fileC at h
    simp only [Bool.and_eq_true, decide_eq_true_eq] at h
    obtain ⟨⟨h1, _, h2, h3, h4⟩, h5, h6⟩ := h
    cases hf with
    | head =>
      refine ⟨h2, h3, isN_size h1, ?_, h4⟩
      split at h5
      · rw [isN_size h5]; exact Nat.le_refl _
      · have := of_decide_eq_true h5; omega
    | tail _ hf => exact ih _ h6 f hf
structure Fit (ig gi : List ByteArray) (fs : List SF) : Prop where
  ig0 : ig.length ≤ 40
  ig1 : ∀ s ∈ ig, s.size = 40
  gi0 : gi.length ≤ 40
  gi1 : ∀ s ∈ gi, s.size = 40
  fs0 : fs.length ≤ 3
  fs1 : ∀ f ∈ fs, FileFit f
theorem right_fit {u s : ByteArray} {rd : Int} {ig gi : List ByteArray} {fs : List SF} {er : Int} (h : B.rightB u s rd ig gi fs er = true) : Fit ig gi fs := by
  unfold B.rightB B.filesB at h
  simp only [Bool.and_eq_true, decide_eq_true_eq] at h
  obtain ⟨_, _, _, h1, h2, h3, _⟩ := h
  exact ⟨(namesB_facts h1).1, (namesB_facts h1).2, (namesB_facts h2).1, (namesB_facts h2).2, h3.2, files_mem _ _ h3.1⟩
/-- Sizes that a message keeps to in any case. -/
structure Small (u s : ByteArray) (ig gi : List ByteArray) (fs : List SF) : Prop where
  u : u.size ≤ 1000000
  s : s.size ≤ 1000000
  ig0 : ig.length ≤ 1000000
  ig1 : ∀ x ∈ ig, x.size ≤ 1000000
  gi0 : gi.length ≤ 1000000
  gi1 : ∀ x ∈ gi, x.size ≤ 1000000
  fs0 : fs.length ≤ 1000000
  fs1 : ∀ f ∈ fs, f.f1.size ≤ 1000000 ∧ f.f2.size ≤ 1000000 ∧ f.f3.size ≤ 1000000
/-! ### the builder among others -/
theorem bd_below {B b : Nat} {s : ByteArray} {W W' : World} (h : Bd B b s W) (hb : Below W.heap.size W W') : Bd B b s W' := by
  rcases h with h | h
  · left
    have hl := h.lt
    obtain ⟨hB, v, hbk, hown, hne⟩ := h
    exact ⟨hB, v, (hb.block b hl).trans hbk, pw_own_below hown hb, hne⟩
  · right
    have hl := h.lt
    obtain ⟨hB, v, hbk, hown, hne⟩ := h
    exact ⟨hB, v, (hb.block b hl).trans hbk, pw_own_below hown hb, hne⟩
/-- What the walk carries: the text so far, the message's box. -/
structure BC (w : World) (B b m : Nat) (msg : Array Value) (s : ByteArray) (W : World) : Prop where
  bd : Bd B b s W
  box : W.heap[m]? = some (.cells msg 28 (0, 0))
  mB : m < B
  wB : w.heap.size ≤ B
  Bl : B ≤ W.heap.size
  below : Below w.heap.size w W
theorem BC.step {w : World} {B b m : Nat} {msg : Array Value} {s : ByteArray} {W W' : World} (h : BC w B b m msg s W) (hb : Below W.heap.size W W') : BC w B b m msg s W' :=
  ⟨bd_below h.bd hb, (hb.block m (Nat.lt_of_lt_of_le h.mB h.Bl)).trans h.box, h.mB, h.wB, Nat.le_trans h.Bl hb.size, h.below.trans (hb.mono (Nat.le_trans h.wB h.Bl))⟩
theorem bc_str {w : World} {B b m : Nat} {msg : Array Value} {s : ByteArray} {W : World} (t : ByteArray) (h : BC w B b m msg s W) (hs : s.size + t.size ≤ 140737488355328) :
    Calls Try.prog 29 #[.pointer (some ⟨b, 0, none⟩), .string t] W fun e W' => e = .returned (.tuple #[.int .i64 t.size, .nilIface]) ∧ BC w B b m msg (s ++ t) W' ∧ Keep5 b W W' := by
  refine (bd_strK B b s t W h.bd hs h.Bl).mono ?_
  rintro e W' ⟨rfl, h1, h2, h3⟩
  refine ⟨rfl, ?_, h3⟩
  exact ⟨h1, (h2.block m h.mB).trans h.box, h.mB, h.wB, Nat.le_trans h.Bl h2.size, h.below.trans (h2.mono h.wB)⟩
theorem bc_text {w : World} {B b m : Nat} {msg : Array Value} {s : ByteArray} {W : World} (h : BC w B b m msg s W) :
    Calls Try.prog 33 #[.pointer (some ⟨b, 0, none⟩)] W fun e W' => e = .returned (.string s) ∧ Below w.heap.size w W' := by
  refine (bd_text B b s W h.bd h.Bl).mono ?_
  rintro e W' ⟨rfl, h2⟩
  exact ⟨rfl, h.below.trans (h2.mono h.wB)⟩
theorem BC.cell {w : World} {B b m : Nat} {msg : Array Value} {s : ByteArray} {W : World} (h : BC w B b m msg s W) (j : Nat) : W.cell? ⟨m, j, none⟩ = msg[j]? := Lib.cell_of_heap h.box j
theorem str_at {W : World} {A : Option Addr} {n : Nat} {l : List ByteArray} (h : Kd.C Kd.string W A n l) (i : Nat) (hi : i < n) : ∃ ad, A = some ad ∧ W.cell? (ad.add i) = some (.string (l.getD i ⟨#[]⟩)) := by
  obtain ⟨ad, c, e, _, hK, hc⟩ := Kd.C_get h ⟨#[]⟩ (i : Int) (by omega) (by omega)
  refine ⟨ad, e, ?_⟩
  obtain rfl : c = [.string (l.getD i ⟨#[]⟩)] := by
    have : c = [Value.string (l.getD (i : Int).toNat ⟨#[]⟩)] := hK
    rwa [Int.toNat_natCast] at this
  have := hc 0 _ rfl
  rw [Int.toNat_natCast] at this
  have e1 : i * Kd.string.sz + 0 = i := by show i * 1 + 0 = i; omega
  rw [e1] at this
  exact this
theorem rdt_nat (l : List SF) (i : Nat) : rd_T46 l (i : Int) = l.getD i z46 := by unfold rd_T46; rw [Int.toNat_natCast]
set_option maxRecDepth 100000 in
theorem kinds_call (W : World) : Calls Try.prog 32 #[] W fun e W' => e = .returned (.slice (some ⟨W.heap.size, 0, none⟩) 4 4) ∧ W' = W.alloc (.cells #[.string ⟨#[]⟩, .string ⟨#[102, 105, 108, 101]⟩, .string ⟨#[100, 101, 108, 116, 97]⟩, .string ⟨#[112, 114, 101, 115, 115]⟩] 9) := by
  go_enter Try.func32, Try.ntmps32
  go_wp2
  go_ret
  exact ⟨rfl, rfl⟩
theorem fin_own (wf : World) (K : Obj) (a b : ByteArray) : ((wf.alloc K).alloc (.cells #[.string a, .string b] 9)).drew.ownsRow wf.heap.size 9 1 (.slice (some ⟨wf.heap.size + 1, 0, none⟩) 2 2) 2 [.string a, .string b] := by
  have h := World.ownsRow_lit (base := wf.heap.size) (e := 9) (size := 1) (wf.alloc K) #[.string a, .string b] 2 (by simp) (by unfold maxLen; omega) (by simp)
  rw [World.size_alloc] at h
  exact h
theorem fin_below (wf : World) (K : Obj) (a b : ByteArray) : Below wf.heap.size wf ((wf.alloc K).alloc (.cells #[.string a, .string b] 9)).drew :=
  below_drew (((Below.refl _ wf).alloc (Nat.le_refl _) _).alloc (by simp) _)
end Go.Proofs.Ytldbhkhblkgnnaa.Given
