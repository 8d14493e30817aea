import Derived.Test.YtfnfmbfkgfpddaaDoorA1
import Derived.Lib.OthersKept
import Derived.Lib.Strings
set_option linter.unusedVariables false
set_option linter.unusedSimpArgs false
namespace Go.Proofs.YtfnfmbfkgfpddaaDoor
open Go.RowKit

/-- The byte at a place. -/
def bt (s : ByteArray) (i : Nat) : Nat := (s.get! i).toNat
theorem bt_eq {s : ByteArray} {i : Nat} (h : i < s.size) : bt s i = (s[i]'h).toNat := by
  have := get_at s i h
  simp only [bt]
  rw [← this]
  rfl
theorem bt_lt (s : ByteArray) (i : Nat) : bt s i < 256 := (s.get! i).toNat_lt

/-- What the runes of a text look like from its bytes. -/
theorem decode_low {s : ByteArray} {i : Nat} (h : i < s.size) (hb : bt s i < 128) : Utf8.decode s i = (bt s i, 1) := by
  rw [bt_eq h] at hb ⊢
  exact decode_ascii s i h hb
theorem decode_hi {s : ByteArray} {i : Nat} (h : i < s.size) (hb : 128 ≤ bt s i) :
    128 ≤ (Utf8.decode s i).1 ∧ 1 ≤ (Utf8.decode s i).2 ∧ i + (Utf8.decode s i).2 ≤ s.size ∧ ∀ j, i ≤ j → j < i + (Utf8.decode s i).2 → 128 ≤ bt s j := by
  have h1 := decode_high s i h (by rw [← bt_eq h]; exact hb)
  refine ⟨h1.1, h1.2, ?_⟩
  have b0 : ¬ bt s (i + 0) < 128 := by simpa using hb
  have step : ∀ n, (∀ k, 0 < k → k < n → (decide (i + k < s.size) && bt s (i + k) / 64 == 2) = true) → i + n ≤ s.size ∨ n = 1 → i + n ≤ s.size ∧ ∀ j, i ≤ j → j < i + n → 128 ≤ bt s j := by
    intro n hk hn
    refine ⟨by omega, fun j h1 h2 => ?_⟩
    rcases Nat.eq_or_lt_of_le h1 with h3 | h3
    · subst h3; exact hb
    · have := hk (j - i) (by omega) (by omega)
      rw [show i + (j - i) = j by omega] at this
      simp only [Bool.and_eq_true, decide_eq_true_eq, beq_iff_eq] at this
      omega
  have e : Utf8.decode s i = (let cont (k : Nat) : Bool := i + k < s.size && bt s (i + k) / 64 == 2
    let b0 := bt s (i + 0)
    if b0 < 0x80 then (b0, 1)
    else if b0 / 32 == 6 && cont 1 then
      let c := (b0 % 32) * 64 + bt s (i + 1) % 64
      if c ≥ 0x80 then (c, 2) else (Utf8.runeError, 1)
    else if b0 / 16 == 14 && cont 1 && cont 2 then
      let c := (b0 % 16) * 4096 + (bt s (i + 1) % 64) * 64 + bt s (i + 2) % 64
      if c ≥ 0x800 && Utf8.valid c then (c, 3) else (Utf8.runeError, 1)
    else if b0 / 8 == 30 && cont 1 && cont 2 && cont 3 then
      let c := (b0 % 8) * 262144 + (bt s (i + 1) % 64) * 4096 + (bt s (i + 2) % 64) * 64 + bt s (i + 3) % 64
      if c ≥ 0x10000 && Utf8.valid c then (c, 4) else (Utf8.runeError, 1)
    else (Utf8.runeError, 1)) := rfl
  have one : i + 1 ≤ s.size ∧ ∀ j, i ≤ j → j < i + 1 → 128 ≤ bt s j := step 1 (fun k h1 h2 => by omega) (.inr rfl)
  rw [e]
  simp only [b0, if_false]
  split
  · rename_i c
    simp only [Bool.and_eq_true] at c
    split
    · exact step 2 (fun k h1 h2 => by obtain rfl : k = 1 := by omega
                                      simpa using c.2) (.inl (by have := c.2; simp only [decide_eq_true_eq, Bool.and_eq_true] at this; omega))
    · exact one
  · split
    · rename_i c
      simp only [Bool.and_eq_true] at c
      split
      · exact step 3 (fun k h1 h2 => by rcases (by omega : k = 1 ∨ k = 2) with rfl | rfl
                                        · simpa using c.1.2
                                        · simpa using c.2) (.inl (by have := c.2; simp only [decide_eq_true_eq, Bool.and_eq_true] at this; omega))
      · exact one
    · split
      · rename_i c
        simp only [Bool.and_eq_true] at c
        split
        · exact step 4 (fun k h1 h2 => by rcases (by omega : k = 1 ∨ k = 2 ∨ k = 3) with rfl | rfl | rfl
                                          · simpa using c.1.1.2
                                          · simpa using c.1.2
                                          · simpa using c.2) (.inl (by have := c.2; simp only [decide_eq_true_eq, Bool.and_eq_true] at this; omega))
        · exact one
      · exact one

def letter (c : Nat) : Prop := 97 ≤ c ∧ c ≤ 122
def nameC (c : Nat) : Prop := letter c ∨ (48 ≤ c ∧ c ≤ 57) ∨ c = 45
instance (c : Nat) : Decidable (letter c) := inferInstanceAs (Decidable (_ ∧ _))
instance (c : Nat) : Decidable (nameC c) := inferInstanceAs (Decidable (_ ∨ _))
/-- Is this text a name? -/
def isName (s : ByteArray) : Bool := decide (1 ≤ s.size ∧ s.size ≤ 16 ∧ letter (bt s 0) ∧ ∀ i, i < s.size → nameC (bt s i))
theorem isName_no {s : ByteArray} (h : ¬ (1 ≤ s.size ∧ s.size ≤ 16 ∧ letter (bt s 0) ∧ ∀ i, i < s.size → nameC (bt s i))) : isName s = false := decide_eq_false h
theorem isName_yes {s : ByteArray} (h : 1 ≤ s.size ∧ s.size ≤ 16 ∧ letter (bt s 0) ∧ ∀ i, i < s.size → nameC (bt s i)) : isName s = true := decide_eq_true h

set_option maxRecDepth 100000 in
theorem rname_walk (s : ByteArray) (w : World) (hs : s.size ≤ 9223372036854775807) : Calls Tryd.prog 22 #[.string s] w fun e w' => e = .returned (.bool (isName s)) ∧ w' = w := by
  go_enter Tryd.func22, Tryd.ntmps22
  go_wp2
  all_goals try
    go_ret
    refine ⟨?_, rfl⟩
    rw [isName_no (fun h => by
      obtain ⟨a, b, ⟨c, d⟩, _⟩ := h
      have e := bt_eq (s := s) (i := 0) (by omega)
      omega)]
    rfl
  have E0 : letter (bt s 0) := by
    have e := bt_eq (s := s) (i := 0) (by omega)
    unfold letter
    omega
  go_loopw [3] (fun n w' => ∃ i : Nat, w' = w ∧ n = .int .i64 i ∧ i ≤ s.size ∧ ∀ j, j < i → nameC (bt s j)) (fun n _ => s.size - (intOf n).toNat)
  case atStart => exact ⟨0, rfl, rfl, by omega, fun j h => by omega⟩
  case round =>
    obtain ⟨i, rfl, rfl, hi, hj⟩ := hrel
    by_cases h : i < s.size
    · have e := bt_eq h
      have h' : (i : Int) < s.size := by omega
      have lt := bt_lt s i
      go_wp2
      all_goals try simp only [bne_iff_ne, ne_eq, bne_eq_false_iff_eq] at *
      all_goals first
        | (go_ret
           refine ⟨?_, rfl⟩
           rw [isName_no (fun q => by
             have g := q.2.2.2 i h
             unfold nameC letter at g
             omega)]
           rfl)
        | (refine ⟨⟨i + 1, trivial, rfl, by omega, fun j hj' => ?_⟩, by simp [intOf]; omega⟩
           rcases Nat.lt_or_ge j i with h1 | h1
           · exact hj j h1
           · obtain rfl : j = i := by omega
             unfold nameC letter
             omega)
    · obtain rfl : i = s.size := by omega
      go_wp2
      go_ret
      refine ⟨?_, rfl⟩
      rw [isName_yes ⟨by omega, by omega, E0, hj⟩]
      rfl

theorem empty_iff (s : ByteArray) : s.toList = [] ↔ s.size = 0 := by
  rw [ByteArray.toList_eq, Go.Lib.size_eq, List.length_eq_zero_iff]
theorem isEmpty_eq (s : ByteArray) (b : Bool) (h : decide (s.size = 0) = b) : s.toList.isEmpty = b := by
  rw [← h, Bool.eq_iff_iff, List.isEmpty_iff, decide_eq_true_eq]
  exact empty_iff s

theorem below_iter (w : World) (s : ByteArray) (n : Nat) : Below w.heap.size w (w.iter s n) := Below.alloc (Below.refl _ _) (Nat.le_refl _) _
set_option maxRecDepth 100000 in
theorem name_walk (s : ByteArray) (w : World) (hs : s.size ≤ 9223372036854775807) : Calls Tryd.prog 21 #[.string s] w fun e w' => e = .returned (.bool (isName s)) ∧ Below w.heap.size w w' := by
  by_cases h0 : s.size = 0
  case pos =>
    rw [isName_no (fun h => by omega)]
    have k4 : s.toList.isEmpty = true := isEmpty_eq _ _ (by simp [h0])
    have k5 : s.toList = [] := (empty_iff s).2 h0
    go_enter Tryd.func21, Tryd.ntmps21
    go_wp2
    go_ret
    exact ⟨rfl, Below.refl _ _⟩
  have k4 : s.toList.isEmpty = false := isEmpty_eq _ _ (by simp [h0])
  have k5 : ¬ s.toList = [] := fun h => h0 ((empty_iff s).1 h)
  by_cases h16 : s.size ≤ 16
  case neg =>
    rw [isName_no (fun h => by omega)]
    have k3 : (16 : Int) < s.size := by omega
    go_enter Tryd.func21, Tryd.ntmps21
    go_wp2
    go_ret
    exact ⟨rfl, Below.refl _ _⟩
  have k3 : ¬ (16 : Int) < s.size := by omega
  go_enter Tryd.func21, Tryd.ntmps21
  go_wp2
  go_loopw [3] (fun _ w' => ∃ i : Nat, w' = w.iter s i ∧ i ≤ s.size ∧ (0 < i → letter (bt s 0)) ∧ ∀ j, j < i → nameC (bt s j)) (fun _ w' => s.size - w'.iterPos w.heap.size)
  case atStart => exact ⟨0, rfl, by omega, fun h => by omega, fun j h => by omega⟩
  case round =>
    obtain ⟨i, rfl, hi, hl, hj⟩ := hrel
    by_cases h : i < s.size
    · have hnx : ∀ ty, (Instr.next (.pointer (some ⟨w.heap.size, 0, none⟩)) true ty).run Tryd.prog (w.iter s i) = _ := fun ty => run_next_any w s i ty h
      obtain ⟨c, n, hd, h1, h2, h3⟩ : ∃ c n, Utf8.decode s i = (c, n) ∧ 1 ≤ n ∧ i + n ≤ s.size ∧ ((c < 128 ∧ n = 1 ∧ bt s i = c) ∨ (128 ≤ c ∧ 128 ≤ bt s i)) := by
        by_cases hb : bt s i < 128
        · exact ⟨_, _, decode_low h hb, by omega, by omega, .inl ⟨hb, rfl, rfl⟩⟩
        · have := decode_hi h (by omega)
          exact ⟨_, _, rfl, this.2.1, this.2.2.1, .inr ⟨this.1, by omega⟩⟩
      obtain ⟨m, hm⟩ : ∃ m, m = i + n := ⟨_, rfl⟩
      simp only [hd, ← hm] at hnx
      have HM := Lib.hid hm
      clear hm
      have hc0 : (0 : Int) ≤ c := by omega
      by_cases hc48 : (c : Int) < 48
      all_goals go_wp2
      all_goals try simp only [bne_iff_ne, ne_eq, bne_eq_false_iff_eq, Bool.not_eq_true', Bool.not_eq_false', decide_eq_false_iff_not, decide_eq_true_eq, beq_iff_eq, beq_eq_false_iff_ne] at *
      all_goals have hm := HM.out
      all_goals first
        | (go_ret
           refine ⟨?_, below_iter _ _ _⟩
           rw [isName_no (fun q => by
             have g := q.2.2.2 i h
             have g2 := q.2.2.1
             rcases Nat.eq_zero_or_pos i with hz | hz
             · subst hz
               unfold letter at g2
               omega
             · unfold nameC letter at g
               omega)]
           rfl)
        | (refine ⟨⟨m, rfl, by omega, fun _ => ?_, fun j hj' => ?_⟩, by simp; omega⟩
           · rcases Nat.eq_zero_or_pos i with hz | hz
             · subst hz
               unfold letter
               omega
             · exact hl hz
           · rcases Nat.lt_or_ge j i with h1 | h1
             · exact hj j h1
             · obtain rfl : j = i := by omega
               unfold nameC letter
               omega)
    · obtain rfl : i = s.size := by omega
      have hnx : ∀ ty, (Instr.next (.pointer (some ⟨w.heap.size, 0, none⟩)) true ty).run Tryd.prog (w.iter s s.size) = _ := fun ty => run_next_end w s s.size ty h
      go_wp2
      go_ret
      refine ⟨?_, below_iter _ _ _⟩
      rw [isName_yes ⟨by omega, by omega, hl (by omega), hj⟩]
      rfl
end Go.Proofs.YtfnfmbfkgfpddaaDoor
