import Derived.Test.YtjlnhifleepnoaaGreatDoorC1
import Derived.Test.YtjlnhifleepnoaaGreatDoorF1
import Derived.Lib.ItoaLen
set_option linter.unusedVariables false
set_option linter.unusedSimpArgs false
namespace Go.Proofs.YtjlnhifleepnoaaGreatDoor
open Go.RowKit

/-- A float made whole. -/
def val (c : Nat) : Int := (floatToIntVal .f64 c .i64).getD 0
def inR (c : Nat) : Bool := Ieee.double.order c negL == some .gt && Ieee.double.order c posL == some .lt
def isWhole (c : Nat) : Bool := inR c && Ieee.double.order c (floatOfInt .f64 (val c)) == some .eq
/-- The text of a number, by its bits. -/
def prt (c : Nat) : List UInt8 :=
  if c = theNaN then [110, 97, 110] else if c = pinf then [105, 110, 102] else if c = ninf then [45, 105, 110, 102] else if c = nzero then [45, 48]
  else if isWhole c then Lib.itoa (val c) else 120 :: hexN 16 c

theorem inR_val {c : Nat} (h : inR c = true) : floatToIntVal .f64 c .i64 = some (val c) ∧ -9007199254740992 < val c ∧ val c < 9007199254740992 := by
  simp only [inR, Bool.and_eq_true, beq_iff_eq] at h
  obtain ⟨n, h1, h2⟩ := whole_of h.2 h.1
  simp [val, h1, h2]

/-- One of the four texts of their own. -/
def isOdd (c : Nat) : Prop := c = theNaN ∨ c = pinf ∨ c = ninf ∨ c = nzero
theorem prt_odd {c : Nat} (h : ¬ isOdd c) : prt c = if isWhole c then Lib.itoa (val c) else 120 :: hexN 16 c := by
  unfold isOdd at h
  simp only [prt]
  rw [if_neg (fun e => h (.inl e)), if_neg (fun e => h (.inr (.inl e))), if_neg (fun e => h (.inr (.inr (.inl e)))), if_neg (fun e => h (.inr (.inr (.inr e))))]

theorem cv2 {c : Nat} {n : Int} (h : floatToIntVal .f64 c .i64 = some n) (W : World) : (convert 31 2 (.float .f64 c)).run Tryz.prog W = .ok (.int .i64 n) W :=
  run_convert_float_int W 31 2 .f64 .i64 c n (by kernel_rfl) (by kernel_rfl) h
theorem cv3 {c : Nat} {n : Int} (h : floatToIntVal .f64 c .i64 = some n) (W : World) : (convert 31 3 (.float .f64 c)).run Tryz.prog W = .ok (.int .i64 n) W :=
  run_convert_float_int W 31 3 .f64 .i64 c n (by kernel_rfl) (by kernel_rfl) h

theorem decimal_int (n : Int) (w : World) (h0 : 0 ≤ n) (hn : n ≤ 9007199254740992) : Calls Tryz.prog 56 #[.int .i64 n] w fun e w' => e = .returned (.string (S (Lib.decDigits n.toNat))) ∧ w' = w := by
  obtain ⟨k, rfl⟩ : ∃ k : Nat, n = (k : Int) := ⟨n.toNat, by omega⟩
  exact decimal_walk k w (by omega)

set_option maxRecDepth 100000 in
theorem rprint_walk (b : Nat) (w : World) (hb : b < 18446744073709551616) : Calls Tryz.prog 43 #[.float .f64 b] w fun e w' => e = .returned (.string (S (prt (fx b)))) ∧ w' = w := by
  have BW := rbits_walk b
  by_cases ho : isOdd (fx b)
  · rcases ho with h | h | h | h
    all_goals
      rw [h] at BW ⊢
      clear h
      go_enter Tryz.func43, Tryz.ntmps43
      go_wp2_with (go_at_call 16; refine (BW _).mono ?_; rintro e w' ⟨rfl, rfl⟩)
      all_goals try simp only [theNaN, pinf, ninf, nzero] at *
      go_wp2
      go_ret
      exact ⟨rfl, rfl⟩
  · rw [prt_odd ho]
    have hbad : bad b = false := by
      cases h : bad b
      · rfl
      · exact absurd (.inl (by simp [fx, h])) ho
    have hf : fx b = b := by simp [fx, hbad]
    rw [hf] at BW ho ⊢
    have q1 : ((b : Int) == 9221120237041090560) = false := by simp only [beq_eq_false_iff_ne, ne_eq]; intro h; exact ho (.inl (by unfold theNaN; omega))
    have q2 : ((b : Int) == 9218868437227405312) = false := by simp only [beq_eq_false_iff_ne, ne_eq]; intro h; exact ho (.inr (.inl (by unfold pinf; omega)))
    have q3 : ((b : Int) == 18442240474082181120) = false := by simp only [beq_eq_false_iff_ne, ne_eq]; intro h; exact ho (.inr (.inr (.inl (by unfold ninf; omega))))
    have q4 : ((b : Int) == 9223372036854775808) = false := by simp only [beq_eq_false_iff_ne, ne_eq]; intro h; exact ho (.inr (.inr (.inr (by unfold nzero; omega))))
    have HO := Lib.hid ho; clear ho
    by_cases hin : inR b = true
    · obtain ⟨v1, v2, v3⟩ := inR_val hin
      have hin' := hin
      simp only [inR, Bool.and_eq_true, beq_iff_eq] at hin'
      have f1 : FloatKind.f64.format.order b 14069245235905429504 = some Ordering.gt := hin'.1
      have f2 : FloatKind.f64.format.order b 4845873199050653696 = some Ordering.lt := hin'.2
      clear hin'
      by_cases heq : Ieee.double.order b (floatOfInt .f64 (val b)) = some .eq
      · have hw : isWhole b = true := by simp [isWhole, hin, heq]
        have HW := Lib.hid hw
        clear hw hin
        rw [if_pos HW.out]
        clear HW
        obtain ⟨n, hn⟩ : ∃ n, n = val b := ⟨_, rfl⟩
        rw [← hn] at v1 v2 v3 heq ⊢
        have cv := cv3 v1
        clear v1 hn
        have f3 : FloatKind.f64.format.order b (floatOfInt .f64 n) = some Ordering.eq := heq
        clear heq
        by_cases hneg : n < 0
        · have e : Lib.itoa n = 45 :: Lib.decDigits (-n).toNat := by
            unfold Lib.itoa
            rw [if_pos hneg, show n.natAbs = (-n).toNat by omega]
          rw [e]
          clear e
          have hsz : ¬ 9223372036854775807 < 1 + (S (Lib.decDigits (-n).toNat)).size := by
            rw [S_size, Lib.decDigits_length]
            have := Lib.nDigits_le20 (-n).toNat (by omega)
            omega
          go_enter Tryz.func43, Tryz.ntmps43
          go_wp2_with (first | (go_at_call 16; refine (BW _).mono ?_; rintro e w' ⟨rfl, rfl⟩) | (go_at_call 56; refine (decimal_int (-n) _ (by omega) (by omega)).mono ?_; rintro e w' ⟨rfl, rfl⟩))
          go_ret
          refine ⟨?_, rfl⟩
          rw [show 45 :: Lib.decDigits (-n).toNat = [45] ++ Lib.decDigits (-n).toNat from rfl, ← S_add]
          rfl
        · have e : Lib.itoa n = Lib.decDigits n.toNat := by
            unfold Lib.itoa
            rw [if_neg hneg]
          rw [e]
          clear e
          go_enter Tryz.func43, Tryz.ntmps43
          go_wp2_with (first | (go_at_call 16; refine (BW _).mono ?_; rintro e w' ⟨rfl, rfl⟩) | (go_at_call 56; refine (decimal_int n _ (by omega) (by omega)).mono ?_; rintro e w' ⟨rfl, rfl⟩))
          go_ret
          exact ⟨rfl, rfl⟩
      · have hw : isWhole b = false := by simp [isWhole, hin, heq]
        have HW := Lib.hid hw
        clear hw hin
        rw [if_neg (by rw [HW.out]; simp)]
        clear HW
        obtain ⟨n, hn⟩ : ∃ n, n = val b := ⟨_, rfl⟩
        rw [← hn] at v1 v2 v3 heq
        have cv := cv3 v1
        clear v1 hn
        have f3 : (FloatKind.f64.format.order b (floatOfInt .f64 n) == some Ordering.eq) = false := by rw [beq_eq_false_iff_ne]; exact heq
        clear heq
        go_enter Tryz.func43, Tryz.ntmps43
        go_wp2_with (first | (go_at_call 16; refine (BW _).mono ?_; rintro e w' ⟨rfl, rfl⟩) | (go_at_call 57; refine (wide_walk b _ hb).mono ?_; rintro e w' ⟨rfl, rfl⟩))
        go_ret
        exact ⟨rfl, rfl⟩
    · have hw : isWhole b = false := by simp [isWhole, hin]
      have HW := Lib.hid hw
      have hin' : ¬ (FloatKind.f64.format.order b 14069245235905429504 = some Ordering.gt ∧ FloatKind.f64.format.order b 4845873199050653696 = some Ordering.lt) := fun h => hin (by
        simp only [inR, Bool.and_eq_true, beq_iff_eq]; exact h)
      clear hw hin
      rw [if_neg (by rw [HW.out]; simp)]
      clear HW
      by_cases f1 : FloatKind.f64.format.order b 14069245235905429504 = some Ordering.gt
      · have f2 : ¬ FloatKind.f64.format.order b 4845873199050653696 = some Ordering.lt := fun h => hin' ⟨f1, h⟩
        clear hin'
        go_enter Tryz.func43, Tryz.ntmps43
        go_wp2_with (first | (go_at_call 16; refine (BW _).mono ?_; rintro e w' ⟨rfl, rfl⟩) | (go_at_call 57; refine (wide_walk b _ hb).mono ?_; rintro e w' ⟨rfl, rfl⟩))
        go_ret
        exact ⟨rfl, rfl⟩
      · clear hin'
        go_enter Tryz.func43, Tryz.ntmps43
        go_wp2_with (first | (go_at_call 16; refine (BW _).mono ?_; rintro e w' ⟨rfl, rfl⟩) | (go_at_call 57; refine (wide_walk b _ hb).mono ?_; rintro e w' ⟨rfl, rfl⟩))
        go_ret
        exact ⟨rfl, rfl⟩
end Go.Proofs.YtjlnhifleepnoaaGreatDoor
