import Derived.Test.YtjlnhifleepnoaaGreatDoorC3
import Derived.Test.YtjlnhifleepnoaaGreatDoorShelf
set_option linter.unusedVariables false
set_option linter.unusedSimpArgs false
namespace Go.Proofs.YtjlnhifleepnoaaGreatDoor
open Go.RowKit

theorem bad_nan : bad theNaN = true := by decide +kernel
theorem fx_fx (b : Nat) : fx (fx b) = fx b := by
  cases h : bad b
  · have : fx b = b := by simp [fx, h]
    rw [this, this]
  · have : fx b = theNaN := by simp [fx, h]
    rw [this]
    simp [fx, bad_nan]
theorem fx_lt {b : Nat} (h : b < 18446744073709551616) : fx b < 18446744073709551616 := by
  unfold fx theNaN
  split <;> omega
theorem not_bad {c : Nat} (h : fx c = c) (hn : c ≠ theNaN) : bad c = false := by
  cases hb : bad c
  · rfl
  · exact absurd (by rw [← h]; simp [fx, hb]) hn

theorem below_grow (w : World) (n : Nat) (os : Array Obj) : Below w.heap.size w (Sort.grow (w.drewN n) os) :=
  ⟨rfl, rfl, rfl, by simp [Sort.grow], fun k hk => by simp [Sort.grow, Array.getElem?_append_left, hk]⟩

theorem rep_zeros (k : Int) (w : World) (h0 : 0 ≤ k) (h1 : k ≤ 16) : Calls Tryz.prog 48 #[.string ⟨#[48]⟩, .int .i64 k] w fun e w' => e = .returned (.string (S (List.replicate k.toNat 48))) ∧ Below w.heap.size w w' := by
  obtain ⟨n, rfl⟩ : ∃ n : Nat, k = (n : Int) := ⟨k.toNat, by omega⟩
  refine (Tryz.strings_Repeat ⟨#[48]⟩ n w (by omega) (by show 1 * n ≤ _; omega)).mono ?_
  rintro e w' ⟨rfl, bel⟩
  refine ⟨?_, bel⟩
  have : ∀ n : Nat, Lib.repeatL [48] n = List.replicate n 48 := by
    intro n
    induction n with
    | zero => rfl
    | succ n ih => simp [Lib.repeatL, ih, List.replicate_succ]
  show Ending.returned (.string ⟨(Lib.repeatL [48] n).toArray⟩) = _
  rw [this]
  rfl

theorem fix0_walk (w : World) : Calls Tryz.prog 45 #[.float .f64 0] w fun e w' => e = .returned (.float .f64 0) ∧ w' = w := by
  have h := fix_walk 0 w
  rwa [show fx 0 = 0 by decide +kernel] at h
theorem run_inf (W : World) : (binOp .quo 31 (.float .f64 4607182418800017408) (.float .f64 0)).run Tryz.prog W = .ok (.float .f64 9218868437227405312) W :=
  run_float_arith W .quo 31 .f64 _ _ _ (by decide +kernel)
theorem same_inf {c : Nat} (hc : fx c = c) (w : World) : Calls Tryz.prog 38 #[.float .f64 c, .float .f64 9218868437227405312] w fun e w' => e = .returned (.bool (c == pinf)) ∧ w' = w := by
  have h := same_walk c 9218868437227405312 w
  rwa [hc, show fx 9218868437227405312 = pinf by decide +kernel] at h

set_option maxRecDepth 100000 in
theorem print_nan (w : World) : Calls Tryz.prog 34 #[.float .f64 theNaN] w fun e w' => e = .returned (.string (S [110, 97, 110])) ∧ w' = w := by
  have BW : ∀ w, Calls Tryz.prog 45 #[.float .f64 theNaN] w fun e w' => e = .returned (.float .f64 theNaN) ∧ w' = w := fun w => by
    have h := fix_walk theNaN w
    rwa [show fx theNaN = theNaN by decide +kernel] at h
  have q : (FloatKind.f64.format.order theNaN theNaN != some Ordering.eq) = true := bad_nan
  go_enter Tryz.func34, Tryz.ntmps34
  go_wp2_with (go_at_call 45; refine (BW _).mono ?_; rintro e w' ⟨rfl, rfl⟩)
  go_ret
  exact ⟨rfl, rfl⟩

set_option maxRecDepth 100000 in
theorem print_inf (w : World) : Calls Tryz.prog 34 #[.float .f64 pinf] w fun e w' => e = .returned (.string (S [105, 110, 102])) ∧ w' = w := by
  have BW : ∀ w, Calls Tryz.prog 45 #[.float .f64 pinf] w fun e w' => e = .returned (.float .f64 pinf) ∧ w' = w := fun w => by
    have h := fix_walk pinf w
    rwa [show fx pinf = pinf by decide +kernel] at h
  have SW : ∀ w, Calls Tryz.prog 38 #[.float .f64 pinf, .float .f64 9218868437227405312] w fun e w' => e = .returned (.bool true) ∧ w' = w := fun w => by
    have h := same_inf (c := pinf) (by decide +kernel) w
    rwa [show (pinf == pinf) = true by decide +kernel] at h
  have q : (FloatKind.f64.format.order pinf pinf != some Ordering.eq) = false := by decide +kernel
  have ri := run_inf
  go_enter Tryz.func34, Tryz.ntmps34
  go_wp2_with (first | (go_at_call 45; refine (BW _).mono ?_; rintro e w' ⟨rfl, rfl⟩) | (go_at_call 45; refine (fix0_walk _).mono ?_; rintro e w' ⟨rfl, rfl⟩) | (go_at_call 38; refine (SW _).mono ?_; rintro e w' ⟨rfl, rfl⟩))
  go_ret
  exact ⟨rfl, rfl⟩

theorem fix_at {c : Nat} (h : fx c = c) (w : World) : Calls Tryz.prog 45 #[.float .f64 c] w fun e w' => e = .returned (.float .f64 c) ∧ w' = w := by
  have := fix_walk c w
  rwa [h] at this
theorem bits_at {c : Nat} (h : fx c = c) (w : World) : Calls Tryz.prog 47 #[.float .f64 c] w fun e w' => e = .returned (.int .u64 c) ∧ w' = w := by
  have := bits_walk c w
  rwa [h] at this
theorem same_at {c : Nat} (h : fx c = c) (hn : c ≠ pinf) (w : World) : Calls Tryz.prog 38 #[.float .f64 c, .float .f64 9218868437227405312] w fun e w' => e = .returned (.bool false) ∧ w' = w := by
  have := same_inf h w
  rwa [show (c == pinf) = false by rw [beq_eq_false_iff_ne]; exact hn] at this

set_option maxRecDepth 100000 in
theorem print_ninf (w : World) : Calls Tryz.prog 34 #[.float .f64 ninf] w fun e w' => e = .returned (.string (S [45, 105, 110, 102])) ∧ w' = w := by
  have BW := fix_at (c := ninf) (by decide +kernel)
  have SW := same_at (c := ninf) (by decide +kernel) (by decide +kernel)
  have q : (FloatKind.f64.format.order ninf ninf != some Ordering.eq) = false := by decide +kernel
  have q1 : FloatKind.f64.format.order ninf 14069245235905429504 = some Ordering.lt := by decide +kernel
  have q2 : FloatKind.f64.format.order ninf 18438243695727462560 = some Ordering.lt := by decide +kernel
  have q3 : FloatKind.f64.format.order ninf ninf = some Ordering.eq := by decide +kernel
  have rm : ∀ W, (binOp .mul 31 (.float .f64 ninf) (.float .f64 4611686018427387904)).run Tryz.prog W = .ok (.float .f64 ninf) W := fun W => run_float_arith W .mul 31 .f64 _ _ _ (by decide +kernel)
  have ri := run_inf
  go_enter Tryz.func34, Tryz.ntmps34
  go_wp2_with (first | (go_at_call 45; refine (BW _).mono ?_; rintro e w' ⟨rfl, rfl⟩) | (go_at_call 45; refine (fix0_walk _).mono ?_; rintro e w' ⟨rfl, rfl⟩) | (go_at_call 38; refine (SW _).mono ?_; rintro e w' ⟨rfl, rfl⟩))
  go_ret
  exact ⟨rfl, rfl⟩

set_option maxRecDepth 100000 in
theorem print_nzero (w : World) : Calls Tryz.prog 34 #[.float .f64 nzero] w fun e w' => e = .returned (.string (S [45, 48])) ∧ w' = w := by
  have BW := fix_at (c := nzero) (by decide +kernel)
  have SW := same_at (c := nzero) (by decide +kernel) (by decide +kernel)
  have TW := bits_at (c := nzero) (by decide +kernel)
  have q : (FloatKind.f64.format.order nzero nzero != some Ordering.eq) = false := by decide +kernel
  have q1 : FloatKind.f64.format.order nzero 14069245235905429504 = some Ordering.gt := by decide +kernel
  have q2 : FloatKind.f64.format.order nzero 4845873199050653696 = some Ordering.lt := by decide +kernel
  have cv := cv2 (c := nzero) (n := 0) (by decide +kernel)
  have q3 : FloatKind.f64.format.order nzero (floatOfInt .f64 0) = some Ordering.eq := by decide +kernel
  have q4 : FloatKind.f64.format.order nzero 0 = some Ordering.eq := by decide +kernel
  have q5 : ((nzero : Int) == 0) = false := by decide +kernel
  have ri := run_inf
  go_enter Tryz.func34, Tryz.ntmps34
  go_wp2_with (first | (go_at_call 45; refine (BW _).mono ?_; rintro e w' ⟨rfl, rfl⟩) | (go_at_call 45; refine (fix0_walk _).mono ?_; rintro e w' ⟨rfl, rfl⟩) | (go_at_call 38; refine (SW _).mono ?_; rintro e w' ⟨rfl, rfl⟩) | (go_at_call 47; refine (TW _).mono ?_; rintro e w' ⟨rfl, rfl⟩))
  go_ret
  exact ⟨rfl, rfl⟩
end Go.Proofs.YtjlnhifleepnoaaGreatDoor
