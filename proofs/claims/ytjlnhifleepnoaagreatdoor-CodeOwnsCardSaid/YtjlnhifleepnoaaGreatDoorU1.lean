import Derived.Test.YtjlnhifleepnoaaGreatDoorK16
import Derived.Test.YtjlnhifleepnoaaGreatDoorR1
set_option linter.unusedVariables false
set_option linter.unusedSimpArgs false
namespace Go.Proofs.YtjlnhifleepnoaaGreatDoor
open Go.RowKit

/-! ### A text, cut at its first byte of a kind. -/
theorem index_cons (c b : UInt8) (l : List UInt8) : Lib.index (b :: l) [c] = if b = c then 0 else if Lib.index l [c] = -1 then -1 else Lib.index l [c] + 1 := by
  show (if [c].isPrefixOf (b :: l) then 0 else if Lib.index l [c] == -1 then -1 else Lib.index l [c] + 1) = _
  by_cases h : b = c
  · subst h; simp
  · have h1 : ([c].isPrefixOf (b :: l)) = false := by simp [List.isPrefixOf]; exact fun e => h e.symm
    rw [h1, if_neg h]
    simp
theorem index_mk (c : UInt8) : ∀ (a b : List UInt8), c ∉ a → Lib.index (a ++ c :: b) [c] = (a.length : Int)
  | [], b, _ => by rw [List.nil_append, index_cons, if_pos rfl]; rfl
  | x :: a, b, h => by
    have h1 : ¬ x = c := fun e => h (by simp [e])
    have h2 : c ∉ a := fun e => h (by simp [e])
    rw [List.cons_append, index_cons, if_neg h1, index_mk c a b h2, if_neg (by omega)]
    simp
theorem index_no (c : UInt8) : ∀ (a : List UInt8), c ∉ a → Lib.index a [c] = -1
  | [], _ => rfl
  | x :: a, h => by
    have h1 : ¬ x = c := fun e => h (by simp [e])
    have h2 : c ∉ a := fun e => h (by simp [e])
    rw [index_cons, if_neg h1, index_no c a h2, if_pos rfl]
theorem cut_mk (c : UInt8) (a b : List UInt8) (h : c ∉ a) : Lib.cut (a ++ c :: b) [c] = (a, b, true) := by
  unfold Lib.cut
  rw [index_mk c a b h, if_pos (by omega)]
  simp
theorem cut_no (c : UInt8) (a : List UInt8) (h : c ∉ a) : Lib.cut a [c] = (a, [], false) := by
  unfold Lib.cut
  rw [index_no c a h, if_neg (by decide)]
theorem split_at (c : UInt8) : ∀ s : List UInt8, c ∈ s → ∃ a b, s = a ++ c :: b ∧ c ∉ a
  | x :: s, h => by
    by_cases e : x = c
    · subst e; exact ⟨[], s, rfl, by simp⟩
    · have h2 : c ∈ s := by
        rcases List.mem_cons.1 h with h3 | h3
        · exact absurd h3.symm e
        · exact h3
      obtain ⟨a, b, rfl, hb⟩ := split_at c s h2
      exact ⟨x :: a, b, rfl, fun h4 => by
        rcases List.mem_cons.1 h4 with h5 | h5
        · exact e h5.symm
        · exact hb h5⟩
/-- Cut and found: put together again. -/
theorem cut_back {c : UInt8} {s : List UInt8} (h : (Lib.cut s [c]).2.2 = true) : s = (Lib.cut s [c]).1 ++ c :: (Lib.cut s [c]).2.1 := by
  by_cases hc : c ∈ s
  · obtain ⟨a, b, rfl, ha⟩ := split_at c s hc
    rw [cut_mk c a b ha]
  · rw [cut_no c s hc] at h
    cases h
theorem cut_fst {c : UInt8} {s : List UInt8} (h : (Lib.cut s [c]).2.2 = false) : (Lib.cut s [c]).1 = s := by
  by_cases hc : c ∈ s
  · obtain ⟨a, b, rfl, ha⟩ := split_at c s hc
    rw [cut_mk c a b ha] at h
    cases h
  · rw [cut_no c s hc]

/-! ### The first that is found. -/
theorem fst_none {f : Nat → Option Ins} : ∀ (k i : Nat), (∀ j, j < k → f (i + j) = none) → fstO f k i = none
  | 0, _, _ => rfl
  | k + 1, i, h => by
    rw [fst_miss (i := i) (h 0 (by omega))]
    exact fst_none k (i + 1) fun j hj => by rw [Nat.add_assoc, Nat.add_comm 1 j]; exact h (j + 1) (by omega)
theorem fst_some {f : Nat → Option Ins} {p : Ins} : ∀ (m k i : Nat), m < k → (∀ j, j < m → f (i + j) = none) → f (i + m) = some p → fstO f k i = some p
  | 0, k + 1, i, _, _, h => fst_hit h
  | m + 1, k + 1, i, hm, hn, h => by
    rw [fst_miss (i := i) (hn 0 (by omega))]
    exact fst_some m k (i + 1) (by omega) (fun j hj => by rw [Nat.add_assoc, Nat.add_comm 1 j]; exact hn (j + 1) (by omega)) (by rw [Nat.add_assoc, Nat.add_comm 1 m]; exact h)
theorem fst_inv {f : Nat → Option Ins} {p : Ins} : ∀ (k i : Nat), fstO f k i = some p → ∃ j, j < k ∧ f (i + j) = some p
  | 0, _, h => by simp [fstO] at h
  | k + 1, i, h => by
    cases hf : f i with
    | some q => rw [fst_hit hf] at h; exact ⟨0, by omega, by rw [Nat.add_zero, hf, ← h]⟩
    | none =>
      rw [fst_miss hf] at h
      obtain ⟨j, hj, e⟩ := fst_inv k (i + 1) h
      exact ⟨j + 1, by omega, by rw [← e, Nat.add_assoc, Nat.add_comm 1 j]⟩

theorem ones_plain : ∀ i, i < 9 → 32 ∉ (onesB.getD i ⟨#[]⟩).toList ∧ 10 ∉ (onesB.getD i ⟨#[]⟩).toList := by decide +kernel
theorem twos_plain : ∀ i, i < 13 → 32 ∉ (twosB.getD i ⟨#[]⟩).toList ∧ 10 ∉ (twosB.getD i ⟨#[]⟩).toList := by decide +kernel
theorem rows_plain : ∀ i, i < 21 → 32 ∉ (rowAt ((i : Nat) : Int)).1 ∧ 10 ∉ (rowAt ((i : Nat) : Int)).1 := by decide +kernel
theorem rows_apart : ∀ i, i < 21 → ∀ j, j < 21 → (rowAt ((i : Nat) : Int)).1 = (rowAt ((j : Nat) : Int)).1 → (rowAt ((i : Nat) : Int)).1 = [] ∨ i = j := by decide +kernel
theorem whole_dec : ∀ n, n < 1024 → wholeE (Lib.decDigits n) = 0 ∧ wholeN (Lib.decDigits n) = (n : Int) := by decide +kernel

/-- A line with a blank is none of the words alone. -/
theorem words_none (s : List UInt8) (h : 32 ∈ s) : fstO (tryO s onesB 9) 9 0 = none ∧ fstO (tryO s twosB 10) 13 0 = none :=
  ⟨fst_none 9 0 fun j hj => by unfold tryO; rw [if_neg]; rintro ⟨_, e⟩; rw [Nat.zero_add] at e; exact (ones_plain j hj).1 (by rw [e]; exact h),
   fst_none 13 0 fun j hj => by unfold tryO; rw [if_neg]; rintro ⟨_, e⟩; rw [Nat.zero_add] at e; exact (twos_plain j hj).1 (by rw [e]; exact h)⟩
/-- A row by its word. -/
theorem row_hit {i : Nat} {rs : List UInt8} {more : Bool} {p : Ins} (hi : i < 21) (hw : (rowAt (i : Int)).1 ≠ []) (h : tryR (rowAt (i : Int)).1 rs more i = some p) : fstO (tryR (rowAt (i : Int)).1 rs more) 21 0 = some p := by
  refine fst_some i 21 0 hi (fun j hj => ?_) (by rw [Nat.zero_add]; exact h)
  rw [Nat.zero_add]
  unfold tryR
  rw [if_pos]
  by_cases e : (rowAt ((j : Nat) : Int)).1 = (rowAt (i : Int)).1
  · rcases rows_apart j (by omega) i hi e with h1 | h1
    · exact .inl h1
    · omega
  · exact .inr e
end Go.Proofs.YtjlnhifleepnoaaGreatDoor
