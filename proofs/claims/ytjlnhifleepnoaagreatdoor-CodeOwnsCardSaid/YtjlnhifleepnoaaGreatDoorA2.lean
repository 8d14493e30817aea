import Derived.Test.YtjlnhifleepnoaaGreatDoorA1
import Derived.Lib.OthersKept
import Derived.Lib.Strings
set_option linter.unusedVariables false
set_option linter.unusedSimpArgs false
namespace Go.Proofs.YtjlnhifleepnoaaGreatDoor
open Go.RowKit

/-- The byte at a place. -/
def bt (s : ByteArray) (i : Nat) : Nat := (s.get! i).toNat
theorem bt_eq {s : ByteArray} {i : Nat} (h : i < s.size) : bt s i = (s[i]'h).toNat := by
  have := get_at s i h
  simp only [bt]
  rw [← this]
  rfl
theorem bt_lt (s : ByteArray) (i : Nat) : bt s i < 256 := (s.get! i).toNat_lt

/-- What the runes of a text look like from its bytes. -/
theorem decode_low {s : ByteArray} {i : Nat} (h : i < s.size) (hb : bt s i < 128) : Utf8.decode s i = (bt s i, 1) := by
  rw [bt_eq h] at hb ⊢
  exact decode_ascii s i h hb
theorem decode_hi {s : ByteArray} {i : Nat} (h : i < s.size) (hb : 128 ≤ bt s i) :
    128 ≤ (Utf8.decode s i).1 ∧ 1 ≤ (Utf8.decode s i).2 ∧ i + (Utf8.decode s i).2 ≤ s.size ∧ ∀ j, i ≤ j → j < i + (Utf8.decode s i).2 → 128 ≤ bt s j := by
  have h1 := decode_high s i h (by rw [← bt_eq h]; exact hb)
  refine ⟨h1.1, h1.2, ?_⟩
  have b0 : ¬ bt s (i + 0) < 128 := by simpa using hb
  have step : ∀ n, (∀ k, 0 < k → k < n → (decide (i + k < s.size) && bt s (i + k) / 64 == 2) = true) → i + n ≤ s.size ∨ n = 1 → i + n ≤ s.size ∧ ∀ j, i ≤ j → j < i + n → 128 ≤ bt s j := by
    intro n hk hn
    refine ⟨by omega, fun j h1 h2 => ?_⟩
    rcases Nat.eq_or_lt_of_le h1 with h3 | h3
    · subst h3; exact hb
    · have := hk (j - i) (by omega) (by omega)
      rw [show i + (j - i) = j by omega] at this
      simp only [Bool.and_eq_true, decide_eq_true_eq, beq_iff_eq] at this
      omega
  have e : Utf8.decode s i = (let cont (k : Nat) : Bool := i + k < s.size && bt s (i + k) / 64 == 2
    let b0 := bt s (i + 0)
    if b0 < 0x80 then (b0, 1)
    else if b0 / 32 == 6 && cont 1 then
      let c := (b0 % 32) * 64 + bt s (i + 1) % 64
      if c ≥ 0x80 then (c, 2) else (Utf8.runeError, 1)
    else if b0 / 16 == 14 && cont 1 && cont 2 then
      let c := (b0 % 16) * 4096 + (bt s (i + 1) % 64) * 64 + bt s (i + 2) % 64
      if c ≥ 0x800 && Utf8.valid c then (c, 3) else (Utf8.runeError, 1)
    else if b0 / 8 == 30 && cont 1 && cont 2 && cont 3 then
      let c := (b0 % 8) * 262144 + (bt s (i + 1) % 64) * 4096 + (bt s (i + 2) % 64) * 64 + bt s (i + 3) % 64
      if c ≥ 0x10000 && Utf8.valid c then (c, 4) else (Utf8.runeError, 1)
    else (Utf8.runeError, 1)) := rfl
  have one : i + 1 ≤ s.size ∧ ∀ j, i ≤ j → j < i + 1 → 128 ≤ bt s j := step 1 (fun k h1 h2 => by omega) (.inr rfl)
  rw [e]
  simp only [b0, if_false]
  split
  · rename_i c
    simp only [Bool.and_eq_true] at c
    split
    · exact step 2 (fun k h1 h2 => by obtain rfl : k = 1 := by omega
                                      simpa using c.2) (.inl (by have := c.2; simp only [decide_eq_true_eq, Bool.and_eq_true] at this; omega))
    · exact one
  · split
    · rename_i c
      simp only [Bool.and_eq_true] at c
      split
      · exact step 3 (fun k h1 h2 => by rcases (by omega : k = 1 ∨ k = 2) with rfl | rfl
                                        · simpa using c.1.2
                                        · simpa using c.2) (.inl (by have := c.2; simp only [decide_eq_true_eq, Bool.and_eq_true] at this; omega))
      · exact one
    · split
      · rename_i c
        simp only [Bool.and_eq_true] at c
        split
        · exact step 4 (fun k h1 h2 => by rcases (by omega : k = 1 ∨ k = 2 ∨ k = 3) with rfl | rfl | rfl
                                          · simpa using c.1.1.2
                                          · simpa using c.1.2
                                          · simpa using c.2) (.inl (by have := c.2; simp only [decide_eq_true_eq, Bool.and_eq_true] at this; omega))
        · exact one
      · exact one

theorem empty_iff (s : ByteArray) : s.toList = [] ↔ s.size = 0 := by
  rw [ByteArray.toList_eq, Go.Lib.size_eq, List.length_eq_zero_iff]
theorem isEmpty_eq (s : ByteArray) (b : Bool) (h : decide (s.size = 0) = b) : s.toList.isEmpty = b := by
  rw [← h, Bool.eq_iff_iff, List.isEmpty_iff, decide_eq_true_eq]
  exact empty_iff s

end Go.Proofs.YtjlnhifleepnoaaGreatDoor
