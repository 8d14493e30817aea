import Derived.Test.YtphaeodcomgffaaGreatF1
set_option linter.unusedVariables false
set_option linter.unusedSimpArgs false
namespace Go.Proofs.YtphaeodcomgffaaGreat
open Ieee

/-- The magnitude of a rung below infinity, in units of the least place. -/
def magR (r : Nat) : Nat := if r < 4503599627370496 then r else (4503599627370496 + r % 4503599627370496) * 2 ^ (r / 4503599627370496 - 1)
theorem mag_step (r : Nat) : magR r < magR (r + 1) := by
  unfold magR
  split
  · rename_i h
    split
    · omega
    · have e : r + 1 = 4503599627370496 := by omega
      rw [e]
      simp
      omega
  · rename_i h
    rw [if_neg (by omega)]
    have hd : 1 ≤ r / 4503599627370496 := by omega
    rcases Nat.lt_or_ge (r % 4503599627370496 + 1) 4503599627370496 with h1 | h1
    · have e1 : (r + 1) % 4503599627370496 = r % 4503599627370496 + 1 := by omega
      have e2 : (r + 1) / 4503599627370496 = r / 4503599627370496 := by omega
      rw [e1, e2]
      exact Nat.mul_lt_mul_of_pos_right (by omega) (Nat.two_pow_pos _)
    · have e1 : (r + 1) % 4503599627370496 = 0 := by omega
      have e2 : (r + 1) / 4503599627370496 - 1 = (r / 4503599627370496 - 1) + 1 := by omega
      have e3 : r % 4503599627370496 = 4503599627370495 := by omega
      rw [e1, e2, e3, Nat.pow_succ]
      have := Nat.two_pow_pos (r / 4503599627370496 - 1)
      omega
theorem mag_mono {r s : Nat} (h : r < s) : magR r < magR s := by
  induction s with
  | zero => omega
  | succ s ih =>
    rcases Nat.lt_succ_iff_lt_or_eq.1 h with h1 | rfl
    · exact Nat.lt_trans (ih h1) (mag_step s)
    · exact mag_step r

def rung (x : Nat) : Nat := x % 9223372036854775808
def sgn (x : Nat) : Bool := x / 9223372036854775808 % 2 == 1
/-- Where a number stands. -/
def stand (x : Nat) : Int := if sgn x then -(rung x : Int) else rung x

theorem read_cases (x : Nat) : (rung x < 9218868437227405312 ∧ ∃ m e, double.read x = .number (sgn x) m e ∧ -1074 ≤ e ∧ m * 2 ^ (e + 1074).toNat = magR (rung x)) ∨ (rung x = 9218868437227405312 ∧ double.read x = .infinity (sgn x)) ∨ (9218868437227405312 < rung x ∧ ∃ t, double.read x = .nan (sgn x) t) := by
  have hb : double.binade = 4503599627370496 := by decide +kernel
  have hsw : double.signWeight = 9223372036854775808 := by decide +kernel
  have hi : double.infRung = 9218868437227405312 := by decide +kernel
  have hl : double.leastPlace = -1074 := by decide +kernel
  unfold Format.read
  rw [hb, hsw, hi, hl]
  simp only
  show _ ∨ _ ∨ _
  rw [show x % 9223372036854775808 = rung x from rfl, show (x / 9223372036854775808 % 2 == 1) = sgn x from rfl]
  by_cases h1 : rung x < 4503599627370496
  · left
    refine ⟨by omega, _, _, by rw [if_pos h1], by omega, ?_⟩
    rw [show (-1074 + 1074 : Int).toNat = 0 by omega, Nat.pow_zero, Nat.mul_one]
    unfold magR
    rw [if_pos h1]
  · by_cases h2 : rung x < 9218868437227405312
    · left
      refine ⟨h2, _, _, by rw [if_neg h1, if_pos h2], by omega, ?_⟩
      unfold magR
      rw [if_neg h1]
      congr 2
      omega
    · by_cases h3 : rung x = 9218868437227405312
      · right; left
        exact ⟨h3, by rw [if_neg h1, if_neg h2, if_pos h3]⟩
      · right; right
        exact ⟨by omega, _, by rw [if_neg h1, if_neg h2, if_neg h3]⟩

theorem scale (s : Bool) (m : Nat) (i base : Int) (hb : -1074 ≤ base) (hi : base ≤ i) : signed s m (i - base).toNat * ((2 ^ (base + 1074).toNat : Nat) : Int) = if s then -((m * 2 ^ (i + 1074).toNat : Nat) : Int) else ((m * 2 ^ (i + 1074).toNat : Nat) : Int) := by
  have e : (i + 1074).toNat = (i - base).toNat + (base + 1074).toNat := by omega
  rw [e, Nat.pow_add, ← Nat.mul_assoc]
  cases s
  · rw [signed_f]; simp
  · rw [signed_t]; simp [Int.neg_mul]
theorem compare_scale (a b : Int) (k : Nat) (hk : 0 < k) : compare a b = compare (a * (k : Int)) (b * (k : Int)) := by
  have hk' : (0 : Int) < k := by omega
  rcases Int.lt_trichotomy a b with h | h | h
  · rw [Int.compare_eq_lt.2 h, Int.compare_eq_lt.2 (Int.mul_lt_mul_of_pos_right h hk')]
  · subst h; simp [Int.compare_eq_eq.2]
  · rw [Int.compare_eq_gt.2 h, Int.compare_eq_gt.2 (Int.mul_lt_mul_of_pos_right h hk')]
theorem compare_mag (r s : Nat) : compare ((magR r : Nat) : Int) (magR s : Nat) = compare (r : Int) s := by
  rcases Nat.lt_trichotomy r s with h | h | h
  · rw [Int.compare_eq_lt.2 (by exact_mod_cast mag_mono h), Int.compare_eq_lt.2 (by omega)]
  · subst h; rw [Int.compare_eq_eq.2 rfl, Int.compare_eq_eq.2 rfl]
  · rw [Int.compare_eq_gt.2 (by exact_mod_cast mag_mono h), Int.compare_eq_gt.2 (by omega)]
theorem mag0 : magR 0 = 0 := rfl
theorem mag_pos {r : Nat} (h : 0 < r) : 0 < magR r := by have := mag_mono h; rw [mag0] at this; exact this

def isN (x : Nat) : Bool := decide (9218868437227405312 < rung x)
/-- The order of two numbers by where they stand. -/
theorem order_stand (x y : Nat) (hx : isN x = false) (hy : isN y = false) : double.order x y = some (compare (stand x) (stand y)) := by
  unfold isN at hx hy
  simp only [decide_eq_false_iff_not] at hx hy
  unfold Format.order
  rcases read_cases x with ⟨a1, m, i, a2, a3, a4⟩ | ⟨a1, a2⟩ | ⟨a1, _⟩
  · rcases read_cases y with ⟨b1, n, j, b2, b3, b4⟩ | ⟨b1, b2⟩ | ⟨b1, _⟩
    · rw [a2, b2]
      simp only [Datum.order, Option.some.injEq]
      rw [compare_scale _ _ (2 ^ (min i j + 1074).toNat) (Nat.two_pow_pos _), scale _ _ _ _ (by omega) (by omega), scale _ _ _ _ (by omega) (by omega), a4, b4]
      unfold stand
      cases hs : sgn x <;> cases ht : sgn y <;> simp only [if_true, if_false, Bool.false_eq_true]
      · exact compare_mag _ _
      · by_cases z : rung x = 0 ∧ rung y = 0
        · rw [z.1, z.2, mag0]
        · have : 0 ≤ magR (rung x) := Nat.zero_le _
          have h : 0 < magR (rung x) ∨ 0 < magR (rung y) := by
            rcases (by omega : 0 < rung x ∨ 0 < rung y) with h | h
            · exact .inl (mag_pos h)
            · exact .inr (mag_pos h)
          rw [Int.compare_eq_gt.2 (by omega), Int.compare_eq_gt.2 (by omega)]
      · by_cases z : rung x = 0 ∧ rung y = 0
        · rw [z.1, z.2, mag0]
        · have h : 0 < magR (rung x) ∨ 0 < magR (rung y) := by
            rcases (by omega : 0 < rung x ∨ 0 < rung y) with h | h
            · exact .inl (mag_pos h)
            · exact .inr (mag_pos h)
          rw [Int.compare_eq_lt.2 (by omega), Int.compare_eq_lt.2 (by omega)]
      · have e := compare_mag (rung y) (rung x)
        rcases Nat.lt_trichotomy (rung x) (rung y) with h | h | h
        · rw [Int.compare_eq_gt.2 (by have := mag_mono h; omega), Int.compare_eq_gt.2 (by omega)]
        · rw [h, Int.compare_eq_eq.2 rfl, Int.compare_eq_eq.2 rfl]
        · rw [Int.compare_eq_lt.2 (by have := mag_mono h; omega), Int.compare_eq_lt.2 (by omega)]
    · rw [a2, b2]
      simp only [Datum.order, Option.some.injEq]
      unfold stand
      cases hs : sgn x <;> cases ht : sgn y <;> simp only [if_true, if_false, Bool.false_eq_true]
      all_goals first | (rw [Int.compare_eq_gt.2 (by omega)]; done) | (rw [Int.compare_eq_lt.2 (by omega)]; done)
    · omega
  · rcases read_cases y with ⟨b1, n, j, b2, b3, b4⟩ | ⟨b1, b2⟩ | ⟨b1, _⟩
    · rw [a2, b2]
      simp only [Datum.order, Option.some.injEq]
      unfold stand
      cases hs : sgn x <;> cases ht : sgn y <;> simp only [if_true, if_false, Bool.false_eq_true]
      all_goals first | (rw [Int.compare_eq_gt.2 (by omega)]; done) | (rw [Int.compare_eq_lt.2 (by omega)]; done)
    · rw [a2, b2]
      simp only [Datum.order, Option.some.injEq]
      unfold stand
      cases hs : sgn x <;> cases ht : sgn y <;> simp only [if_true, if_false, Bool.false_eq_true, a1, b1]
      all_goals decide
    · omega
  · omega
theorem order_nan_l (x y : Nat) (hx : isN x = true) : double.order x y = none := by
  unfold isN at hx
  simp only [decide_eq_true_eq] at hx
  unfold Format.order
  rcases read_cases x with ⟨a1, _⟩ | ⟨a1, a2⟩ | ⟨a1, t, a2⟩
  · omega
  · omega
  · rw [a2]; rfl
theorem order_nan_r (x y : Nat) (hy : isN y = true) : double.order x y = none := by
  unfold isN at hy
  simp only [decide_eq_true_eq] at hy
  unfold Format.order
  rcases read_cases y with ⟨a1, _⟩ | ⟨a1, a2⟩ | ⟨a1, t, a2⟩
  · omega
  · omega
  · rw [a2]; cases double.read x <;> rfl
theorem bad_isN (x : Nat) : bad x = isN x := by
  unfold bad
  show (double.order x x != some Ordering.eq) = _
  cases h : isN x
  · rw [order_stand x x h h, Int.compare_eq_eq.2 rfl]; rfl
  · rw [order_nan_l x x h]; rfl
end Go.Proofs.YtphaeodcomgffaaGreat
