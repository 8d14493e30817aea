import Derived.Test.YtjlnhifleepnoaaGreatDoorA1
set_option linter.unusedVariables false
set_option linter.unusedSimpArgs false
namespace Go.Proofs.YtjlnhifleepnoaaGreatDoor
open Ieee

def posL : Nat := 4845873199050653696
def negL : Nat := 14069245235905429504
def negH : Nat := 18438243695727462560
def two : Nat := 4611686018427387904
def pinf : Nat := 9218868437227405312
def ninf : Nat := 18442240474082181120
def nzero : Nat := 9223372036854775808

theorem read_posL : double.read posL = .number false 4503599627370496 1 := by decide +kernel
theorem read_negL : double.read negL = .number true 4503599627370496 1 := by decide +kernel
theorem read_two : double.read two = .number false 4503599627370496 (-51) := by decide +kernel
theorem read_zero : double.read 0 = .number false 0 (-1074) := by decide +kernel
theorem read_negH : double.read negH = .number true 5010420900022432 971 := by decide +kernel

/-- The finite numbers of the format. -/
theorem read_number {c : Nat} {s : Bool} {m : Nat} {e : Int} (h : double.read c = .number s m e) :
    -1074 ≤ e ∧ e ≤ 971 ∧ m < 9007199254740992 ∧ (e = -1074 ∨ 4503599627370496 ≤ m) ∧ c / 9223372036854775808 % 2 = s.toNat ∧
      c % 9223372036854775808 = (if m < 4503599627370496 then m else (e + 1074).toNat * 4503599627370496 + m) := by
  unfold Format.read at h
  have hb : double.binade = 4503599627370496 := by decide +kernel
  have hsw : double.signWeight = 9223372036854775808 := by decide +kernel
  have hi : double.infRung = 9218868437227405312 := by decide +kernel
  have hl : double.leastPlace = -1074 := by decide +kernel
  rw [hb, hsw, hi, hl] at h
  simp only at h
  split at h
  · rename_i h1
    simp only [Datum.number.injEq] at h
    obtain ⟨rfl, rfl, rfl⟩ := h
    refine ⟨by omega, by omega, by omega, .inl rfl, ?_, by rw [if_pos h1]⟩
    rcases (by omega : c / 9223372036854775808 % 2 = 0 ∨ c / 9223372036854775808 % 2 = 1) with h2 | h2 <;> simp [h2]
  · split at h
    · rename_i h1 h2
      simp only [Datum.number.injEq] at h
      obtain ⟨rfl, rfl, rfl⟩ := h
      refine ⟨by omega, by omega, by omega, .inr (by omega), ?_, ?_⟩
      · rcases (by omega : c / 9223372036854775808 % 2 = 0 ∨ c / 9223372036854775808 % 2 = 1) with h2 | h2 <;> simp [h2]
      · rw [if_neg (by omega)]
        omega
    · split at h <;> cases h

theorem order_self {c : Nat} (h : bad c = false) : (∃ s m e, double.read c = .number s m e) ∨ (∃ s, double.read c = .infinity s) := by
  unfold bad at h
  have h0 : FloatKind.f64.format.order c c = some .eq := by simpa using h
  have : double.order c c = some .eq := h0
  unfold Format.order at this
  cases hq : double.read c with
  | number s m e => exact .inl ⟨_, _, _, rfl⟩
  | infinity s => exact .inr ⟨_, rfl⟩
  | nan s t => rw [hq] at this; simp [Datum.order] at this

theorem signed_f (m k : Nat) : signed false m k = ((m * 2 ^ k : Nat) : Int) := by simp [signed, Nat.shiftLeft_eq]
theorem signed_t (m k : Nat) : signed true m k = -((m * 2 ^ k : Nat) : Int) := by simp [signed, Nat.shiftLeft_eq]

theorem cut_zero (s : Bool) (n d : Nat) : Toward.zero.cut s n d = n / 2 ^ d := by
  simp only [Toward.cut, Nat.shiftLeft_eq, Nat.one_mul, Bool.toNat_false, Nat.add_zero]
  rcases Nat.le_total d (n.log2 + 2) with h | h
  · rw [Nat.min_eq_left h]
  · rw [Nat.min_eq_right h]
    have h1 : n < 2 ^ (n.log2 + 1) := Nat.lt_log2_self
    have h2 : 2 ^ (n.log2 + 1) ≤ 2 ^ (n.log2 + 2) := Nat.pow_le_pow_right (by decide) (by omega)
    have h3 : 2 ^ (n.log2 + 2) ≤ 2 ^ d := Nat.pow_le_pow_right (by decide) h
    rw [Nat.div_eq_of_lt (by omega), Nat.div_eq_of_lt (by omega)]

theorem toInt_number (s : Bool) (m : Nat) (e : Int) : (Datum.number s m e).toInt .zero = some (signed s (m * 2 ^ e.toNat / 2 ^ (-e).toNat) 0) := by
  simp [Datum.toInt, Datum.integral, cut_zero, Nat.shiftLeft_eq]

/-- What the test against the limits says of a number. -/
theorem small_of_lt {s : Bool} {m : Nat} {e : Int} {k : Nat} (h1 : (Datum.number s m e).order (.number false 4503599627370496 1) = some .lt) (h2 : (Datum.number s m e).order (.number true 4503599627370496 1) = some .gt) :
    m * 2 ^ e.toNat / 2 ^ (-e).toNat < 9007199254740992 := by
  simp only [Datum.order, Option.some.injEq, Int.compare_eq_lt, Int.compare_eq_gt] at h1 h2
  have key : m * 2 ^ (e - min e 1).toNat < 4503599627370496 * 2 ^ (1 - min e 1).toNat := by
    cases s
    · rw [signed_f, signed_f] at h1
      omega
    · rw [signed_t, signed_t] at h2
      omega
  rcases (by omega : e < 1 ∨ 1 ≤ e) with h | h
  · have e1 : min e 1 = e := by omega
    rw [e1, show (e - e).toNat = 0 by omega, Nat.pow_zero, Nat.mul_one] at key
    rw [show e.toNat = 0 by omega, Nat.pow_zero, Nat.mul_one]
    refine Nat.div_lt_of_lt_mul ?_
    have e2 : (1 - e).toNat = (-e).toNat + 1 := by omega
    rw [e2, Nat.pow_succ] at key
    omega
  · have e1 : min e 1 = 1 := by omega
    rw [e1, show (1 - 1 : Int).toNat = 0 by omega, Nat.pow_zero, Nat.mul_one] at key
    rw [show (-e).toNat = 0 by omega, Nat.pow_zero, Nat.div_one]
    have e2 : e.toNat = (e - 1).toNat + 1 := by omega
    rw [e2, Nat.pow_succ, ← Nat.mul_assoc]
    omega

/-- Between the limits a number may be made whole. -/
theorem whole_of {c : Nat} (h1 : double.order c posL = some .lt) (h2 : double.order c negL = some .gt) :
    ∃ n : Int, floatToIntVal .f64 c .i64 = some n ∧ -9007199254740992 < n ∧ n < 9007199254740992 := by
  unfold Format.order at h1 h2
  rw [read_posL] at h1
  rw [read_negL] at h2
  cases hq : double.read c with
  | nan s t => rw [hq] at h1; simp [Datum.order] at h1
  | infinity s => rw [hq] at h1 h2; cases s <;> simp [Datum.order] at h1 h2
  | number s m e =>
    rw [hq] at h1 h2
    have hs := small_of_lt (k := 0) h1 h2
    have e1 : (FloatKind.f64.decode c).toInt .zero = some (signed s (m * 2 ^ e.toNat / 2 ^ (-e).toNat) 0) := by
      show (double.read c).toInt .zero = _
      rw [hq, toInt_number]
    have lo : IntKind.i64.min = -9223372036854775808 := rfl
    have hi : IntKind.i64.max = 9223372036854775807 := rfl
    obtain ⟨k, hk⟩ : ∃ k, k = m * 2 ^ e.toNat / 2 ^ (-e).toNat := ⟨_, rfl⟩
    rw [← hk] at e1 hs
    refine ⟨signed s k 0, ?_, ?_⟩
    · unfold floatToIntVal
      rw [e1]
      simp only
      rw [if_pos]
      cases s
      · rw [signed_f]; omega
      · rw [signed_t]; omega
    · cases s
      · rw [signed_f]; omega
      · rw [signed_t]; omega

theorem zero_of {c : Nat} (hc : c < 18446744073709551616) (h : double.order c 0 = some .eq) : c = 0 ∨ c = nzero := by
  unfold Format.order at h
  rw [read_zero] at h
  cases hq : double.read c with
  | nan s t => rw [hq] at h; simp [Datum.order] at h
  | infinity s => rw [hq] at h; cases s <;> simp [Datum.order] at h
  | number s m e =>
    rw [hq] at h
    obtain ⟨r1, r2, r3, r4, r5, r6⟩ := read_number hq
    simp only [Datum.order, Option.some.injEq, Int.compare_eq_eq] at h
    have hm : m = 0 := by
      have hp : 0 < 2 ^ (e - min e (-1074)).toNat := Nat.two_pow_pos _
      have : m * 2 ^ (e - min e (-1074)).toNat = 0 := by
        cases s
        · rw [signed_f, signed_f, Nat.zero_mul] at h; exact Int.ofNat_inj.1 h
        · rw [signed_t, signed_f, Nat.zero_mul] at h; exact Int.ofNat_inj.1 (by rw [← Int.neg_neg ((m * 2 ^ (e - min e (-1074)).toNat : Nat) : Int), h]; rfl)
      rcases Nat.mul_eq_zero.1 this with h1 | h1
      · exact h1
      · omega
    subst hm
    rw [if_pos (by omega)] at r6
    unfold nzero
    omega

theorem cut_even_ge (s : Bool) (n d : Nat) (h : d ≤ n.log2 + 2) : n / 2 ^ d ≤ Toward.even.cut s n d := by
  simp only [Toward.cut, Nat.shiftLeft_eq, Nat.one_mul, Nat.min_eq_left h]
  exact Nat.le_add_right _ _

/-- Twice a number below -1e308 is no number of the format. -/
theorem twice {c : Nat} (hc : c < 18446744073709551616) (h : double.order c negH = some .lt) : double.mul c two = some ninf := by
  unfold Format.order at h
  rw [read_negH] at h
  unfold Format.mul
  rw [read_two]
  cases hq : double.read c with
  | nan s t => rw [hq] at h; simp [Datum.order] at h
  | infinity s =>
    rw [hq] at h
    cases s
    · simp [Datum.order] at h
    · simp only [Datum.product]
      decide +kernel
  | number s m e =>
    rw [hq] at h
    obtain ⟨r1, r2, r3, r4, r5, r6⟩ := read_number hq
    simp only [Datum.order, Option.some.injEq, Int.compare_eq_lt] at h
    have e0 : min e 971 = e := by omega
    rw [e0, show (e - e).toNat = 0 by omega] at h
    cases s
    · rw [signed_f, signed_t] at h; omega
    · rw [signed_t, signed_t, Nat.pow_zero, Nat.mul_one] at h
      have h1 : 5010420900022432 * 2 ^ (971 - e).toNat < m := by omega
      have e1 : e = 971 := by
        rcases (by omega : e = 971 ∨ 1 ≤ (971 - e).toNat) with h2 | h2
        · exact h2
        · have : 2 ^ 1 ≤ 2 ^ (971 - e).toNat := Nat.pow_le_pow_right (by decide) h2
          omega
      subst e1
      simp only [Datum.product, Option.map_some, Option.some.injEq, Format.write, Format.nearest]
      have hm : ¬ m * 4503599627370496 = 0 := by omega
      rw [if_neg hm]
      have hlog : (m * 4503599627370496).log2 = 104 := by
        rw [Nat.log2_eq_iff hm]
        omega
      rw [hlog]
      have hl : double.leastPlace = -1074 := by decide +kernel
      have hf : double.fractionBits = 52 := rfl
      have hb : double.binade = 4503599627370496 := by decide +kernel
      have hi : double.infRung = 9218868437227405312 := by decide +kernel
      rw [hl, hf, hb, hi]
      have e2 : max (971 + -51 + (104 : Nat) - (52 : Nat) : Int) (-1074) = 972 := by omega
      rw [e2]
      have e3 : ((971 + -51 : Int) - 972).toNat = 0 := by omega
      have e4 : ((972 : Int) - (971 + -51)).toNat = 52 := by omega
      have e5 : ((972 : Int) - -1074).toNat = 2046 := by omega
      rw [e3, e4, e5, Nat.shiftLeft_zero]
      have hk := cut_even_ge (Bool.xor true false) (m * 4503599627370496) 52 (by rw [hlog]; omega)
      rw [show (2 : Nat) ^ 52 = 4503599627370496 by decide, Nat.mul_div_cancel _ (by decide)] at hk
      rw [Nat.min_eq_right (by omega)]
      decide +kernel
theorem ninf_ne {c : Nat} (hc : c < 18446744073709551616) (h : double.order ninf c = some .eq) : c = ninf := by
  unfold Format.order at h
  have hn : double.read ninf = .infinity true := by decide +kernel
  rw [hn] at h
  cases hq : double.read c with
  | nan s t => rw [hq] at h; simp [Datum.order] at h
  | number s m e => rw [hq] at h; simp [Datum.order] at h
  | infinity s =>
    rw [hq] at h
    cases s
    · simp [Datum.order] at h
    · unfold Format.read at hq
      have hb : double.binade = 4503599627370496 := by decide +kernel
      have hsw : double.signWeight = 9223372036854775808 := by decide +kernel
      have hi : double.infRung = 9218868437227405312 := by decide +kernel
      rw [hb, hsw, hi] at hq
      simp only at hq
      split at hq
      · cases hq
      · split at hq
        · cases hq
        · split at hq
          · rename_i h3
            simp only [Datum.infinity.injEq, beq_iff_eq] at hq
            unfold ninf
            omega
          · cases hq
end Go.Proofs.YtjlnhifleepnoaaGreatDoor
