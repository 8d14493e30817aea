import Derived.Test.YtjlnhifleepnoaaGreatDoorP4
set_option linter.unusedVariables false
set_option linter.unusedSimpArgs false
namespace Go.Proofs.YtjlnhifleepnoaaGreatDoor
open Go.RowKit

/-- The bits of the number that a text may be of. -/
def tguess (l : List UInt8) : Nat :=
  if l = [110, 97, 110] then theNaN else if l = [105, 110, 102] then pinf else if l = [45, 105, 110, 102] then ninf else if l = [45, 48] then nzero
  else if Lib.hasPrefix l [120] then fx (puVal 18446744073709551615 (puAll 16 1152921504606846976 18446744073709551615 l.tail))
  else floatOfInt .f64 (piVal l)
def GuessPost (n : Nat) (w : World) (e : Ending) (w' : World) : Prop := e = .returned (.float .f64 n) ∧ Below w.heap.size w w'

theorem of_walk' (n m : Nat) (h : fx n = m) (w : World) : Calls Tryz.prog 69 #[.int .u64 n] w fun e w' => e = .returned (.float .f64 m) ∧ w' = w := by
  subst h; exact of_walk n w

theorem drop1 (s : ByteArray) : (s.extract 1 s.size).data.toList = s.data.toList.tail := by
  rw [← ByteArray.toList_eq, Lib.extract_toList, Lib.size_eq]
  rw [List.take_of_length_le (by simp), List.drop_one]

theorem tg1 {l : List UInt8} (h : (l == [110, 97, 110]) = true) : tguess l = theNaN := by
  unfold tguess; rw [if_pos (beq_iff_eq.1 h)]
theorem tg2 {l : List UInt8} (h1 : (l == [110, 97, 110]) = false) (h : (l == [105, 110, 102]) = true) : tguess l = pinf := by
  unfold tguess; rw [if_neg (beq_eq_false_iff_ne.1 h1), if_pos (beq_iff_eq.1 h)]
theorem tg3 {l : List UInt8} (h1 : (l == [110, 97, 110]) = false) (h2 : (l == [105, 110, 102]) = false) (h : (l == [45, 105, 110, 102]) = true) : tguess l = ninf := by
  unfold tguess; rw [if_neg (beq_eq_false_iff_ne.1 h1), if_neg (beq_eq_false_iff_ne.1 h2), if_pos (beq_iff_eq.1 h)]
theorem tg4 {l : List UInt8} (h1 : (l == [110, 97, 110]) = false) (h2 : (l == [105, 110, 102]) = false) (h3 : (l == [45, 105, 110, 102]) = false) (h : (l == [45, 48]) = true) : tguess l = nzero := by
  unfold tguess; rw [if_neg (beq_eq_false_iff_ne.1 h1), if_neg (beq_eq_false_iff_ne.1 h2), if_neg (beq_eq_false_iff_ne.1 h3), if_pos (beq_iff_eq.1 h)]
theorem tg5 {l : List UInt8} (h1 : (l == [110, 97, 110]) = false) (h2 : (l == [105, 110, 102]) = false) (h3 : (l == [45, 105, 110, 102]) = false) (h4 : (l == [45, 48]) = false) (h : Lib.hasPrefix l [120] = true) :
    tguess l = fx (puVal 18446744073709551615 (puAll 16 1152921504606846976 18446744073709551615 l.tail)) := by
  unfold tguess; rw [if_neg (beq_eq_false_iff_ne.1 h1), if_neg (beq_eq_false_iff_ne.1 h2), if_neg (beq_eq_false_iff_ne.1 h3), if_neg (beq_eq_false_iff_ne.1 h4), if_pos h]
theorem tg6 {l : List UInt8} (h1 : (l == [110, 97, 110]) = false) (h2 : (l == [105, 110, 102]) = false) (h3 : (l == [45, 105, 110, 102]) = false) (h4 : (l == [45, 48]) = false) (h : Lib.hasPrefix l [120] = false) :
    tguess l = floatOfInt .f64 (piVal l) := by
  unfold tguess; rw [if_neg (beq_eq_false_iff_ne.1 h1), if_neg (beq_eq_false_iff_ne.1 h2), if_neg (beq_eq_false_iff_ne.1 h3), if_neg (beq_eq_false_iff_ne.1 h4), if_neg (by rw [h]; simp)]

set_option maxRecDepth 100000 in
theorem guess_walk (s : ByteArray) (w : World) (L : Laid w) (hs : s.size ≤ 281474976710656) : Calls Tryz.prog 52 #[.string s] w (GuessPost (tguess s.toList) w) := by
  have LD := Lib.hid L
  clear L
  have n1 := of_walk' 9221120237041090560 theNaN (by decide +kernel)
  have n2 := of_walk' 9218868437227405312 pinf (by decide +kernel)
  have n3 := of_walk' 18442240474082181120 ninf (by decide +kernel)
  have n4 := of_walk' 9223372036854775808 nzero (by decide +kernel)
  have HP : ∀ W, Calls Tryz.prog 61 #[.string s, .string ⟨#[120]⟩] W fun e w' => e = .returned (.bool (Lib.hasPrefix s.toList [120])) ∧ w' = W := fun W => by
    rw [ByteArray.toList_eq]
    exact Tryz.strings_HasPrefix s ⟨#[120]⟩ W
  have PI : ∀ W, Laid W → Calls Tryz.prog 70 #[.string s, .int .i64 10, .int .i64 64] W (PiPost s.toList W) := fun W l => by
    rw [ByteArray.toList_eq]
    exact pi_walk s hs W l
  have PU : ∀ W, Laid W → Calls Tryz.prog 53 #[.string (s.extract 1 s.size), .int .i64 16, .int .i64 64] W (PuPost 18446744073709551615 (puAll 16 1152921504606846976 18446744073709551615 s.toList.tail) W) := fun W l => by
    rw [ByteArray.toList_eq, ← drop1]
    exact pu16 _ (by rw [ByteArray.size_extract]; omega) W l
  cases hpx : Lib.hasPrefix s.toList [120]
  · rw [hpx] at HP
    have HX := Lib.hid hpx
    clear hpx PU
    go_enter Tryz.func52, Tryz.ntmps52
    go_wp2_with (first | (go_at_call 69; refine (n1 _).mono ?_; rintro e w' ⟨rfl, rfl⟩) | (go_at_call 69; refine (n2 _).mono ?_; rintro e w' ⟨rfl, rfl⟩) | (go_at_call 69; refine (n3 _).mono ?_; rintro e w' ⟨rfl, rfl⟩) | (go_at_call 69; refine (n4 _).mono ?_; rintro e w' ⟨rfl, rfl⟩) | (go_at_call 61; refine (HP _).mono ?_; rintro e w' ⟨rfl, rfl⟩) | (go_at_call 70; refine (PI _ LD.out).mono ?_; rintro e w1 ⟨er, rfl, b1⟩; have B1 := Lib.hid b1; clear b1))
    all_goals go_ret
    all_goals first
      | exact ⟨by rw [tg1 ‹_›]; rfl, Below.refl _ _⟩
      | exact ⟨by rw [tg2 ‹_› ‹_›]; rfl, Below.refl _ _⟩
      | exact ⟨by rw [tg3 ‹_› ‹_› ‹_›]; rfl, Below.refl _ _⟩
      | exact ⟨by rw [tg4 ‹_› ‹_› ‹_› ‹_›]; rfl, Below.refl _ _⟩
      | exact ⟨by rw [tg6 ‹_› ‹_› ‹_› ‹_› HX.out]; rfl, B1.out⟩
  · rw [hpx] at HP
    have HX := Lib.hid hpx
    have h1 : (1 : Int) ≤ s.size := by
      rcases Nat.eq_zero_or_pos s.size with h | h
      · rw [(empty_iff s).2 h] at hpx
        exact absurd hpx (by decide)
      · omega
    clear hpx PI
    go_enter Tryz.func52, Tryz.ntmps52
    go_wp2_with (first | (go_at_call 69; refine (n1 _).mono ?_; rintro e w' ⟨rfl, rfl⟩) | (go_at_call 69; refine (n2 _).mono ?_; rintro e w' ⟨rfl, rfl⟩) | (go_at_call 69; refine (n3 _).mono ?_; rintro e w' ⟨rfl, rfl⟩) | (go_at_call 69; refine (n4 _).mono ?_; rintro e w' ⟨rfl, rfl⟩) | (go_at_call 69; refine (of_walk _ _).mono ?_; rintro e w' ⟨rfl, rfl⟩) | (go_at_call 61; refine (HP _).mono ?_; rintro e w' ⟨rfl, rfl⟩) | (go_at_call 53; refine (PU _ LD.out).mono ?_; rintro e w1 ⟨er, rfl, _, b1⟩; have B1 := Lib.hid b1; clear b1))
    all_goals go_ret
    all_goals first
      | exact ⟨by rw [tg1 ‹_›]; rfl, Below.refl _ _⟩
      | exact ⟨by rw [tg2 ‹_› ‹_›]; rfl, Below.refl _ _⟩
      | exact ⟨by rw [tg3 ‹_› ‹_› ‹_›]; rfl, Below.refl _ _⟩
      | exact ⟨by rw [tg4 ‹_› ‹_› ‹_› ‹_›]; rfl, Below.refl _ _⟩
      | exact ⟨by rw [tg5 ‹_› ‹_› ‹_› ‹_› HX.out]; rfl, B1.out⟩
end Go.Proofs.YtjlnhifleepnoaaGreatDoor
