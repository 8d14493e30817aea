import Derived.Test.YtfnfmbfkgfpddaaDoorP7
import Derived.Test.YtfnfmbfkgfpddaaDoorB5
set_option linter.unusedVariables false
set_option linter.unusedSimpArgs false
namespace Go.Proofs.YtfnfmbfkgfpddaaDoor
open Go.RowKit

theorem live_m12 (w : World) (L : Laid w) : Calls Tryd.prog 18 #[.string ⟨#[45, 49, 50]⟩] w fun e w' => e = .returned (.tuple #[.float .f64 13846317054350589952, .int .i64 0]) ∧ Below w.heap.size w w' := by
  refine (parse_walk ⟨#[45, 49, 50]⟩ w L (by decide)).mono ?_
  rintro e w' ⟨rfl, b⟩
  rw [ByteArray.toList_eq]
  exact ⟨by rw [show parseB (⟨#[45, 49, 50]⟩ : ByteArray).data.toList = 13846317054350589952 by decide +kernel, show parseE (⟨#[45, 49, 50]⟩ : ByteArray).data.toList = 0 by decide +kernel], b⟩
theorem live_01 (w : World) (L : Laid w) : Calls Tryd.prog 18 #[.string ⟨#[48, 49]⟩] w fun e w' => e = .returned (.tuple #[.float .f64 0, .int .i64 20]) ∧ Below w.heap.size w w' := by
  refine (parse_walk ⟨#[48, 49]⟩ w L (by decide)).mono ?_
  rintro e w' ⟨rfl, b⟩
  rw [ByteArray.toList_eq]
  exact ⟨by rw [show parseB (⟨#[48, 49]⟩ : ByteArray).data.toList = 0 by decide +kernel, show parseE (⟨#[48, 49]⟩ : ByteArray).data.toList = 20 by decide +kernel], b⟩
theorem below_of_chg {w w' : World} (c : Chg [] w w') : Below w.heap.size w w' := c.below (Nat.le_refl _) (by simp)
theorem live_split (w : World) : Calls Tryd.prog 23 #[.string ⟨#[32, 97, 32, 98]⟩] w fun e w' => (∃ a c, e = .returned (.tuple #[.slice a 2 c, .int .i64 0])) ∧ Below w.heap.size w w' := by
  refine (split_walk ⟨#[32, 97, 32, 98]⟩ w).mono ?_
  rintro e w' ⟨v, rfl, o, c⟩
  obtain ⟨a, k, rfl⟩ := o.rd.slice
  refine ⟨⟨a, k, ?_⟩, below_of_chg c⟩
  rw [show (splitL ⟨#[32, 97, 32, 98]⟩).length = 2 by decide +kernel, show splitE ⟨#[32, 97, 32, 98]⟩ = 0 by decide +kernel]
theorem live_lines (w : World) : Calls Tryd.prog 26 #[.string ⟨#[97, 10]⟩] w fun e w' => (∃ a c, e = .returned (.slice a 1 c)) ∧ Below w.heap.size w w' := by
  refine (lines_walk ⟨#[97, 10]⟩ w (by decide)).mono ?_
  rintro e w' ⟨v, rfl, o, c⟩
  obtain ⟨a, k, rfl⟩ := o.rd.slice
  refine ⟨⟨a, k, ?_⟩, below_of_chg c⟩
  rw [show (lines ⟨#[97, 10]⟩).length = 1 by decide +kernel]
theorem live_name (w : World) : Calls Tryd.prog 21 #[.string ⟨#[97]⟩] w fun e w' => e = .returned (.bool true) ∧ Below w.heap.size w w' := by
  refine (name_walk ⟨#[97]⟩ w (by decide)).mono ?_
  rintro e w' ⟨rfl, b⟩
  exact ⟨by rw [show isName ⟨#[97]⟩ = true by decide +kernel], b⟩
theorem live_seven (w : World) (L : Laid w) : Calls Tryd.prog 14 #[.float .f64 4619567317775286272] w fun e w' => e = .returned (.string ⟨#[55]⟩) ∧ Below w.heap.size w w' := by
  refine (print_any 4619567317775286272 w L (by decide)).mono ?_
  rintro e w' ⟨rfl, b⟩
  exact ⟨by rw [show prt (fx 4619567317775286272) = [55] by decide +kernel]; rfl, b⟩

set_option maxRecDepth 100000 in
/-- The law's live. -/
theorem live_walk (w : World) (L : Laid w) : Calls Tryd.prog 16 #[] w fun e w' => e = .returned (.bool true) ∧ Below w.heap.size w w' := by
  have LD := Lib.hid L
  clear L
  have q : FloatKind.f64.format.order 13846317054350589952 13846317054350589952 = some Ordering.eq := by decide +kernel
  go_enter Tryd.func16, Tryd.ntmps16
  go_wp2_with (first | ((fail_if_success (have _z := L1.out)); go_at_call 18; refine (live_m12 _ LD.out).mono ?_; rintro e w1 ⟨rfl, b1⟩; have B1 := Lib.hid b1; have L1 := Lib.hid (LD.out.below b1); clear b1) | (go_at_call 18; refine (live_01 _ L1.out).mono ?_; rintro e w2 ⟨rfl, b2⟩; have B2 := Lib.hid (B1.out.trans (b2.mono B1.out.size)); have L2 := Lib.hid (L1.out.below b2); clear b2) | (go_at_call 23; refine (live_split _).mono ?_; rintro e w3 ⟨⟨a, c, rfl⟩, b3⟩; have B3 := Lib.hid (B2.out.trans (b3.mono B2.out.size)); have L3 := Lib.hid (L2.out.below b3); clear b3) | (go_at_call 14; refine (live_seven _ L3.out).mono ?_; rintro e w4 ⟨rfl, b4⟩; have B4 := Lib.hid (B3.out.trans (b4.mono B3.out.size)); have L4 := Lib.hid (L3.out.below b4); clear b4) | (go_at_call 21; refine (live_name _).mono ?_; rintro e w5 ⟨rfl, b5⟩; have B5 := Lib.hid (B4.out.trans (b5.mono B4.out.size)); clear b5) | (go_at_call 26; refine (live_lines _).mono ?_; rintro e w6 ⟨⟨a6, c6, rfl⟩, b6⟩; have B6 := Lib.hid (B5.out.trans (b6.mono B5.out.size)); clear b6))
  all_goals go_ret
  all_goals exact ⟨rfl, B6.out⟩
end Go.Proofs.YtfnfmbfkgfpddaaDoor
