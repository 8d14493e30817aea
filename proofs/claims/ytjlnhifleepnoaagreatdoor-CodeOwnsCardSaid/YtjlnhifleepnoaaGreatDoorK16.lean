import Derived.Test.YtjlnhifleepnoaaGreatDoorK10
import Derived.Test.YtjlnhifleepnoaaGreatDoorJ1
set_option linter.unusedVariables false
set_option linter.unusedSimpArgs false
namespace Go.Proofs.YtjlnhifleepnoaaGreatDoor
open Go.RowKit

/-- The text's lines, read: how many there are, the tag and the instructions, or the error and its line. -/
def readLoop : Nat → List UInt8 → Nat → Int → List Ins → Except (Int × Int) (Nat × Int × List Ins)
  | 0, _, k, tag, l => .ok (k, tag, l)
  | f + 1, s, k, tag, l =>
    if s = [] then .ok (k, tag, l)
    else if 1025 < k + 1 then .error (50, k + 1)
    else if (Lib.cut s [10]).2.2 = false then .error (20, k + 1)
    else if 0 < k then
      match instrS (Lib.cut s [10]).1 with
      | some p => readLoop f (Lib.cut s [10]).2.1 (k + 1) tag (l ++ [p])
      | none => .error (20, k + 1)
    else if (Lib.cut s [10]).1 = tagS 1 then readLoop f (Lib.cut s [10]).2.1 (k + 1) 1 l
    else if (Lib.cut s [10]).1 = tagS 2 then readLoop f (Lib.cut s [10]).2.1 (k + 1) 2 l
    else .error (20, k + 1)
/-- The first that may not be. -/
def badAt (n : Int) : List Ins → Nat → Option Nat
  | [], _ => none
  | p :: l, i => if mayS p n = true then badAt n l (i + 1) else some i
def readFin (k : Nat) (tag : Int) (l : List Ins) : Except (Int × Int) (Int × List Ins) :=
  if l = [] then .error (20, k + 1) else match badAt l.length l 0 with
    | some i => .error (50, i + 2)
    | none => .ok (tag, l)
/-- What read makes of a text. -/
def readS (s : List UInt8) : Except (Int × Int) (Int × List Ins) :=
  match readLoop s.length s 0 0 [] with
  | .error e => .error e
  | .ok r => readFin r.1 r.2.1 r.2.2

theorem loop_nil (f k : Nat) (tag : Int) (l : List Ins) : readLoop f [] k tag l = .ok (k, tag, l) := by cases f <;> simp [readLoop]
theorem loop_long {f k : Nat} {s : List UInt8} {tag : Int} {l : List Ins} (hs : s ≠ []) (hf : s.length ≤ f) (h : 1025 < k + 1) : readLoop f s k tag l = .error (50, k + 1) := by
  cases f with
  | zero => cases s <;> simp_all
  | succ f => rw [readLoop, if_neg hs, if_pos h]
theorem loop_open {f k : Nat} {s : List UInt8} {tag : Int} {l : List Ins} (hs : s ≠ []) (hf : s.length ≤ f) (h : ¬ 1025 < k + 1) (hc : (Lib.cut s [10]).2.2 = false) : readLoop f s k tag l = .error (20, k + 1) := by
  cases f with
  | zero => cases s <;> simp_all
  | succ f => rw [readLoop, if_neg hs, if_neg h, if_pos hc]
theorem loop_bad {f k : Nat} {s : List UInt8} {tag : Int} {l : List Ins} (hs : s ≠ []) (hf : s.length ≤ f) (h : ¬ 1025 < k + 1) (hc : (Lib.cut s [10]).2.2 = true) (hk : 0 < k) (hi : instrS (Lib.cut s [10]).1 = none) : readLoop f s k tag l = .error (20, k + 1) := by
  cases f with
  | zero => cases s <;> simp_all
  | succ f => rw [readLoop, if_neg hs, if_neg h, if_neg (by simp [hc]), if_pos hk, hi]
theorem cut_less {s : List UInt8} (hs : s ≠ []) (hc : (Lib.cut s [10]).2.2 = true) : (Lib.cut s [10]).2.1.length < s.length := by
  have : 0 < s.length := List.length_pos_iff.2 hs
  unfold Lib.cut at hc ⊢
  by_cases h : 0 ≤ Lib.index s [10]
  · rw [if_pos h]; simp only [List.length_drop, List.length_singleton]; omega
  · rw [if_neg h] at hc; cases hc
theorem loop_ins {f k : Nat} {s : List UInt8} {tag : Int} {l : List Ins} {p : Ins} (hs : s ≠ []) (hf : s.length ≤ f) (h : ¬ 1025 < k + 1) (hc : (Lib.cut s [10]).2.2 = true) (hk : 0 < k) (hi : instrS (Lib.cut s [10]).1 = some p) :
    ∃ f', (Lib.cut s [10]).2.1.length ≤ f' ∧ readLoop f s k tag l = readLoop f' (Lib.cut s [10]).2.1 (k + 1) tag (l ++ [p]) := by
  have hl := cut_less hs hc
  cases f with
  | zero => cases s <;> simp_all
  | succ f => exact ⟨f, by omega, by rw [readLoop, if_neg hs, if_neg h, if_neg (by simp [hc]), if_pos hk, hi]⟩
theorem loop_one {f : Nat} {s : List UInt8} {tag : Int} {l : List Ins} (hs : s ≠ []) (hf : s.length ≤ f) (hc : (Lib.cut s [10]).2.2 = true) (h1 : (Lib.cut s [10]).1 = tagS 1) :
    ∃ f', (Lib.cut s [10]).2.1.length ≤ f' ∧ readLoop f s 0 tag l = readLoop f' (Lib.cut s [10]).2.1 1 1 l := by
  have hl := cut_less hs hc
  cases f with
  | zero => cases s <;> simp_all
  | succ f => exact ⟨f, by omega, by rw [readLoop, if_neg hs, if_neg (by omega), if_neg (by simp [hc]), if_neg (by omega), if_pos h1]⟩
theorem loop_two {f : Nat} {s : List UInt8} {tag : Int} {l : List Ins} (hs : s ≠ []) (hf : s.length ≤ f) (hc : (Lib.cut s [10]).2.2 = true) (h1 : ¬ (Lib.cut s [10]).1 = tagS 1) (h2 : (Lib.cut s [10]).1 = tagS 2) :
    ∃ f', (Lib.cut s [10]).2.1.length ≤ f' ∧ readLoop f s 0 tag l = readLoop f' (Lib.cut s [10]).2.1 1 2 l := by
  have hl := cut_less hs hc
  cases f with
  | zero => cases s <;> simp_all
  | succ f => exact ⟨f, by omega, by rw [readLoop, if_neg hs, if_neg (by omega), if_neg (by simp [hc]), if_neg (by omega), if_neg h1, if_pos h2]⟩
theorem loop_no {f : Nat} {s : List UInt8} {tag : Int} {l : List Ins} (hs : s ≠ []) (hf : s.length ≤ f) (hc : (Lib.cut s [10]).2.2 = true) (h1 : ¬ (Lib.cut s [10]).1 = tagS 1) (h2 : ¬ (Lib.cut s [10]).1 = tagS 2) : readLoop f s 0 tag l = .error (20, 1) := by
  cases f with
  | zero => cases s <;> simp_all
  | succ f => rw [readLoop, if_neg hs, if_neg (by omega), if_neg (by simp [hc]), if_neg (by omega), if_neg h1, if_neg h2]; rfl

theorem badAt_none {n : Int} : ∀ (l : List Ins) (i : Nat), (∀ j (h : j < l.length), mayS l[j] n = true) → badAt n l i = none
  | [], _, _ => rfl
  | p :: l, i, h => by
    rw [badAt, if_pos (show mayS p n = true from h 0 (by simp)), badAt_none l (i + 1) fun j hj => (h (j + 1) (by simpa using hj) :)]
theorem badAt_some {n : Int} : ∀ (l : List Ins) (i k : Nat) (hk : k < l.length), (∀ j (h : j < l.length), j < k → mayS l[j] n = true) → mayS l[k] n = false → badAt n l i = some (i + k)
  | p :: l, i, 0, _, _, hb => by
    rw [badAt, if_neg (by simpa using hb)]; rfl
  | p :: l, i, k + 1, hk, h, hb => by
    rw [badAt, if_pos (show mayS p n = true from h 0 (by simp) (by omega)), badAt_some l (i + 1) k (by simpa using hk) (fun j hj hjk => (h (j + 1) (by simpa using hj) (by omega) :)) hb]
    congr 1; omega
end Go.Proofs.YtjlnhifleepnoaaGreatDoor
