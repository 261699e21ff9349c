/- Plain lemmas: strings as lists of numbers; steps of a run with enough rounds. No program in sight. -/
import Derived.Test.YtldbhkhblkgnnaaPW
import Derived.Test.YtldbhkhblkgnnaaWMore
import Derived.Lib.Strings
namespace Go.Proofs.Ytldbhkhblkgnnaa.B
open Go.RowKit Go.Proofs.Ytldbhkhblkgnnaa.PW Go.Proofs.YtldbhkhblkgnnaaW.PrintWords Go.Proofs.YtldbhkhblkgnnaaW.PrintMore
/-! ### runs -/
theorem Ev.ip {α : Type} {c : Prop} [Decidable c] {g f : Nat → Option α} {r : α} (h : c) (e : Ev g r) : Ev (fun n => if c then g n else f n) r := by
  obtain ⟨K, e⟩ := e
  exact ⟨K, fun k hk => (if_pos h).trans (e k hk)⟩
theorem Ev.nn {α : Type} {c : Prop} [Decidable c] {g f : Nat → Option α} {r : α} (h : ¬ c) (e : Ev f r) : Ev (fun n => if c then g n else f n) r := by
  obtain ⟨K, e⟩ := e
  exact ⟨K, fun k hk => (if_neg h).trans (e k hk)⟩
theorem Ev.co {α : Type} {x : Option α} {a : α} (h : x = some a) : Ev (fun _ => x) a := ⟨0, fun _ _ => h⟩
theorem Ev.eq {α : Type} {g : Nat → Option α} {a b : α} (h : a = b) (e : Ev g a) : Ev g b := h ▸ e
/-- A call without rounds, then what follows. -/
theorem Ev.cb {α β : Type} {x : Option α} {f : Nat → α → Option β} {a : α} {r : β} (h : x = some a) (k : Ev (fun n => f n a) r) : Ev (fun n => x.bind (f n)) r := Ev.bind (Ev.co h) k
theorem w64 {n : Int} (h0 : -9223372036854775808 ≤ n) (h1 : n ≤ 9223372036854775807) : wrap64 n = n := by unfold wrap64; omega
/-! ### strings as lists of numbers -/
theorem byte_lt (s : ByteArray) : ∀ x ∈ bytesOf s, 0 ≤ x ∧ x < 256 := by
  intro x hx
  unfold bytesOf at hx
  obtain ⟨b, _, rfl⟩ := List.mem_map.1 hx
  have := b.toNat_lt
  omega
theorem bytesOf_inj {s t : ByteArray} (h : bytesOf s = bytesOf t) : s = t := by
  have hd : s.data.toList = t.data.toList := by
    unfold bytesOf at h
    have inj : ∀ (l m : List UInt8), (l.map fun b => (b.toNat : Int)) = (m.map fun b => (b.toNat : Int)) → l = m := by
      intro l
      induction l with
      | nil => intro m hm; cases m with
        | nil => rfl
        | cons b m => simp at hm
      | cons a l ih => intro m hm; cases m with
        | nil => simp at hm
        | cons b m =>
          simp only [List.map_cons, List.cons.injEq] at hm
          rw [ih m hm.2, UInt8.toNat_inj.1 (Int.ofNat.inj hm.1)]
    exact inj _ _ h
  apply ByteArray.ext
  exact Array.toList_inj.1 hd
theorem toList_iff {s t : ByteArray} : s.toList = t.toList ↔ bytesOf s = bytesOf t := by
  rw [ByteArray.toList_eq, ByteArray.toList_eq]
  constructor
  · intro h; unfold bytesOf; rw [h]
  · intro h; rw [bytesOf_inj h]
theorem toList_eq' {s t : ByteArray} : s.toList = t.toList ↔ s = t := ⟨fun h => bytesOf_inj (toList_iff.1 h), fun h => by rw [h]⟩
theorem bytesOf_cat (s t : ByteArray) : bytesOf (catS s t) = bytesOf s ++ bytesOf t := by
  unfold bytesOf catS
  simp [ByteArray.data_append]
theorem bytesOf_cut (s : ByteArray) (a b : Nat) : bytesOf (cutS s a b) = ((bytesOf s).drop a).take (b - a) := by
  unfold bytesOf cutS
  rw [Go.Lib.extract_data, List.map_take, List.map_drop]
theorem bytesOf_nums {l : List Int} (h : ∀ x ∈ l, 0 ≤ x ∧ x < 256) : bytesOf (strOfNums l) = l := by
  unfold bytesOf strOfNums
  simp only [List.map_map]
  have : ∀ (l : List Int), (∀ x ∈ l, 0 ≤ x ∧ x < 256) → l.map ((fun b : UInt8 => (b.toNat : Int)) ∘ fun n => UInt8.ofNat n.toNat) = l := by
    intro l
    induction l with
    | nil => intro _; rfl
    | cons a l ih =>
      intro h
      have ha := h a (List.mem_cons_self ..)
      rw [List.map_cons, ih (fun x hx => h x (List.mem_cons_of_mem _ hx))]
      congr 1
      simp only [Function.comp, UInt8.toNat_ofNat']
      omega
  simpa using this l h
theorem strOfNums_bytesOf (s : ByteArray) : strOfNums (bytesOf s) = s := bytesOf_inj (bytesOf_nums (byte_lt s))
theorem size_len (s : ByteArray) : (bytesOf s).length = s.size := bytesOf_length s
theorem size_cat (s t : ByteArray) : (catS s t).size = s.size + t.size := by rw [← size_len, bytesOf_cat, List.length_append, size_len, size_len]
theorem size_cut {s : ByteArray} {a b : Nat} (h : b ≤ s.size) : (cutS s a b).size = b - a := by
  rw [← size_len, bytesOf_cut, List.length_take, List.length_drop, size_len]; omega
theorem size_nums (l : List Int) : (strOfNums l).size = l.length := by
  unfold strOfNums
  simp [ByteArray.size]
theorem bt_get (s : ByteArray) (i : Int) : bt s i = (bytesOf s).getD i.toNat 0 := by rw [← rd_bytesOf]; rfl
theorem bt_nat (s : ByteArray) (i : Nat) : bt s (i : Int) = (bytesOf s).getD i 0 := by rw [bt_get]; simp
theorem drop_cons (s : ByteArray) (i : Nat) (h : i < s.size) : (bytesOf s).drop i = bt s i :: (bytesOf s).drop (i + 1) := by
  rw [bt_nat, List.drop_eq_getElem_cons (by rw [size_len]; exact h), List.getD_eq_getElem?_getD, List.getElem?_eq_getElem (by rw [size_len]; exact h)]
  rfl
theorem drop_nil (s : ByteArray) (i : Nat) (h : s.size ≤ i) : (bytesOf s).drop i = [] := List.drop_eq_nil_of_le (by rw [size_len]; exact h)
theorem cut_all (s : ByteArray) : cutS s 0 s.size = s := bytesOf_inj (by rw [bytesOf_cut, List.drop_zero, List.take_of_length_le]; rw [size_len]; omega)
theorem cat_nil (s : ByteArray) : catS s ⟨#[]⟩ = s := bytesOf_inj (by rw [bytesOf_cat]; simp [bytesOf])
theorem nil_cat (s : ByteArray) : catS ⟨#[]⟩ s = s := bytesOf_inj (by rw [bytesOf_cat]; simp [bytesOf])
theorem cat_assoc (s t u : ByteArray) : catS (catS s t) u = catS s (catS t u) := bytesOf_inj (by simp only [bytesOf_cat, List.append_assoc])
theorem toList_nil {s : ByteArray} : s.toList = ([] : List UInt8) ↔ s = ⟨#[]⟩ := by
  constructor
  · intro h
    apply toList_eq'.1
    rw [h, ByteArray.toList_eq]
  · rintro rfl
    rw [ByteArray.toList_eq]
/-- 'Within'. -/
theorem within_law (a lo hi : Int) (h1 : lo ≤ hi) :
    lo ≤ lo + a % (hi - lo + 1) ∧ lo + a % (hi - lo + 1) ≤ hi := by
  have p := Int.emod_nonneg a (by omega : hi - lo + 1 ≠ 0)
  have q := Int.emod_lt_of_pos a (by omega : 0 < hi - lo + 1)
  omega
end Go.Proofs.Ytldbhkhblkgnnaa.B
