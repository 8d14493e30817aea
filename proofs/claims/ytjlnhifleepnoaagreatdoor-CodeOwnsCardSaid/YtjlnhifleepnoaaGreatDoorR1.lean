import Derived.Test.YtjlnhifleepnoaaGreatDoorQ3
import Derived.Lib.AtoiTie
import Derived.Lib.ParseIntBTie
set_option linter.unusedVariables false
set_option linter.unusedSimpArgs false
namespace Go.Proofs.YtjlnhifleepnoaaGreatDoor
open Go.RowKit

theorem hexd_digit : ∀ d, d < 10 → 48 ≤ (hexd d).toNat ∧ (hexd d).toNat ≤ 57 ∧ Lib.digitVal (hexd d) = some d := by decide +kernel
theorem hexd_dv : ∀ d, d < 16 → dv (hexd d) = d := by decide +kernel

theorem dec_bytes (u : Nat) : ∀ c ∈ Lib.decDigits u, 48 ≤ c.toNat ∧ c.toNat ≤ 57 := by
  induction u using Nat.strongRecOn with
  | _ u ih =>
    by_cases h : 9 < u
    · rw [dec_step h]
      intro c hc
      rcases List.mem_append.1 hc with h1 | h1
      · exact ih (u / 10) (by omega) c h1
      · rw [List.mem_singleton.1 h1]
        have := hexd_digit (u % 10) (by omega)
        exact ⟨this.1, this.2.1⟩
    · rw [dec_last h]
      intro c hc
      rw [List.mem_singleton.1 hc]
      have := hexd_digit u (by omega)
      exact ⟨this.1, this.2.1⟩
theorem dec_ne (u : Nat) : Lib.decDigits u ≠ [] := by
  by_cases h : 9 < u
  · rw [dec_step h]; simp
  · rw [dec_last h]; simp
theorem dec_len : ∀ (k u : Nat), u < 10 ^ (k + 1) → (Lib.decDigits u).length ≤ k + 1
  | 0, u, h => by rw [dec_last (by simp at h; omega)]; simp
  | k + 1, u, h => by
    by_cases h9 : 9 < u
    · rw [dec_step h9]
      have := dec_len k (u / 10) (by rw [Nat.pow_succ] at h; omega)
      simp; omega
    · rw [dec_last h9]; simp

theorem decFrom_snoc : ∀ (a : List UInt8) (acc v : Nat) (c : UInt8) (d : Nat), Lib.decFrom acc a = some v → Lib.digitVal c = some d → Lib.decFrom acc (a ++ [c]) = some (v * 10 + d)
  | [], acc, v, c, d, h, hc => by simp [Lib.decFrom] at h ⊢; rw [hc, h]
  | x :: a, acc, v, c, d, h, hc => by
    simp only [Lib.decFrom, List.cons_append] at h ⊢
    cases hx : Lib.digitVal x with
    | none => rw [hx] at h; cases h
    | some y => rw [hx] at h; exact decFrom_snoc a _ v c d h hc
theorem decFrom_dec (u : Nat) : Lib.decFrom 0 (Lib.decDigits u) = some u := by
  induction u using Nat.strongRecOn with
  | _ u ih =>
    by_cases h : 9 < u
    · rw [dec_step h, decFrom_snoc _ _ _ _ _ (ih (u / 10) (by omega)) (hexd_digit (u % 10) (by omega)).2.2]
      congr 1; omega
    · rw [dec_last h]
      simp [Lib.decFrom, (hexd_digit u (by omega)).2.2]
theorem decNat_dec (u : Nat) : Lib.decNat (Lib.decDigits u) = some u := by
  unfold Lib.decNat
  rw [if_neg (by rw [List.isEmpty_iff]; exact dec_ne u)]
  exact decFrom_dec u
theorem dec_cons (u : Nat) : ∃ b r, Lib.decDigits u = b :: r ∧ 48 ≤ b.toNat ∧ b.toNat ≤ 57 := by
  cases h : Lib.decDigits u with
  | nil => exact absurd h (dec_ne u)
  | cons b r => exact ⟨b, r, rfl, dec_bytes u b (by rw [h]; simp)⟩
theorem atoi_itoa (n : Int) : Lib.atoi (Lib.itoa n) = some n := by
  unfold Lib.itoa
  split
  · rename_i h
    simp only [Lib.atoi, beq_self_eq_true, if_true, decNat_dec, Option.map_some]
    congr 1; omega
  · obtain ⟨b, r, h1, h2, h3⟩ := dec_cons n.toNat
    have d := decNat_dec n.toNat
    rw [h1] at d ⊢
    have b45 : (b == 45) = false := by rw [beq_eq_false_iff_ne]; rintro rfl; exact absurd h2 (by decide)
    have b43 : (b == 43) = false := by rw [beq_eq_false_iff_ne]; rintro rfl; exact absurd h2 (by decide)
    simp only [Lib.atoi, b45, b43, d, Option.map_some]
    simp; omega
theorem itoa_len {n : Int} (h1 : -9007199254740992 < n) (h2 : n < 9007199254740992) : (Lib.itoa n).length ≤ 17 := by
  unfold Lib.itoa
  split
  · have := dec_len 15 n.natAbs (by omega)
    simp; omega
  · have := dec_len 15 n.toNat (by omega)
    omega
theorem piVal_itoa {n : Int} (h1 : -9007199254740992 < n) (h2 : n < 9007199254740992) : piVal (Lib.itoa n) = n := by
  have := itoa_len h1 h2
  unfold piVal
  rw [Lib.parseIntB_64, Lib.atoiAll_short _ (by omega), atoi_itoa]
  rfl

theorem rdl_snoc {B : Nat} : ∀ (a : List UInt8) (acc v : Nat) (c : UInt8) (d : Nat), rdl B acc a = some v → wv B c.toNat = (d : Int) → rdl B acc (a ++ [c]) = some (v * B + d)
  | [], acc, v, c, d, h, hc => by
    simp only [rdl, Option.some.injEq] at h
    subst h
    simp only [List.nil_append, rdl, hc]
    rw [if_neg (by omega)]
    rfl
  | x :: a, acc, v, c, d, h, hc => by
    simp only [rdl, List.cons_append] at h ⊢
    split at h
    · cases h
    · rename_i hx
      rw [if_neg hx]
      exact rdl_snoc a _ v c d h hc
theorem rdl_dec (u : Nat) : rdl 10 0 (Lib.decDigits u) = some u := by
  induction u using Nat.strongRecOn with
  | _ u ih =>
    by_cases h : 9 < u
    · rw [dec_step h, rdl_snoc _ _ _ _ (u % 10) (ih (u / 10) (by omega)) (wv_hit (by omega) (by omega) rfl)]
      congr 1; omega
    · rw [dec_last h]
      have e : wv 10 (hexd u).toNat = (u : Int) := wv_hit (by omega) (by omega) rfl
      simp only [rdl, e]
      rw [if_neg (by omega)]
      simp
theorem rd_dec {u : Nat} (h : u < 10 ^ 16) : rd 10 (Lib.decDigits u) = some u := by
  unfold rd
  rw [if_neg, rdl_dec]
  rintro (h1 | h1)
  · exact dec_ne u h1
  · have := dec_len 15 u h
    omega

theorem hexN_len1 : ∀ k c, (hexN k c).length = k
  | 0, c => rfl
  | k + 1, c => by simp [hexN, hexN_len1 k]
theorem rdl_hex : ∀ k c, rdl 16 0 (hexN k c) = some (c % 16 ^ k)
  | 0, c => by simp [hexN, rdl, Nat.mod_one]
  | k + 1, c => by
    rw [hexN, rdl_snoc _ _ _ _ (c % 16) (rdl_hex k (c / 16)) (wv_hit (by omega) (by omega) rfl)]
    congr 1
    rw [Nat.pow_succ, Nat.mul_comm (16 ^ k) 16, Nat.mod_mul]
    omega
theorem rd_hex {c : Nat} (hc : c < 18446744073709551616) : rd 16 (hexN 16 c) = some c := by
  unfold rd
  rw [if_neg, rdl_hex, Nat.mod_eq_of_lt (by simpa using hc)]
  rintro (h1 | h1)
  · have := hexN_len1 16 c
    rw [h1] at this
    cases this
  · rw [hexN_len1] at h1; omega

theorem pu_snoc {B cut M : Nat} : ∀ (a : List UInt8) (acc v : Nat) (c : UInt8) (d : Nat), pu B cut M acc a = .ok v → dv c = d → d < B → v < cut → v * B + d ≤ M → pu B cut M acc (a ++ [c]) = .ok (v * B + d)
  | [], acc, v, c, d, h, hc, h1, h2, h3 => by
    simp only [pu, Lib.NumEnd.ok.injEq] at h
    subst h
    simp only [List.nil_append, pu, hc]
    rw [if_neg (by omega), if_neg (by omega), if_neg (by omega)]
  | x :: a, acc, v, c, d, h, hc, h1, h2, h3 => by
    simp only [pu, List.cons_append] at h ⊢
    split at h
    · cases h
    · split at h
      · cases h
      · split at h
        · cases h
        · rename_i q1 q2 q3
          rw [if_neg q1, if_neg q2, if_neg q3]
          exact pu_snoc a _ v c d h hc h1 h2 h3
theorem pu_hex : ∀ k c, k ≤ 16 → pu 16 1152921504606846976 18446744073709551615 0 (hexN k c) = .ok (c % 16 ^ k)
  | 0, c, _ => by simp [hexN, pu, Nat.mod_one]
  | k + 1, c, hk => by
    have e : c % 16 ^ (k + 1) = (c / 16) % 16 ^ k * 16 + c % 16 := by
      rw [Nat.pow_succ, Nat.mul_comm (16 ^ k) 16, Nat.mod_mul]
      omega
    have l1 : (c / 16) % 16 ^ k < 16 ^ k := Nat.mod_lt _ (Nat.pow_pos (by decide))
    have l2 : 16 ^ k ≤ 16 ^ 15 := Nat.pow_le_pow_right (by decide) (by omega)
    have l3 : (16 : Nat) ^ 15 = 1152921504606846976 := by decide
    rw [hexN, pu_snoc _ _ _ _ (c % 16) (pu_hex k (c / 16) (by omega)) (hexd_dv _ (by omega)) (by omega) (by omega) (by omega), e]
theorem puAll_hex {c : Nat} (hc : c < 18446744073709551616) : puVal 18446744073709551615 (puAll 16 1152921504606846976 18446744073709551615 (hexN 16 c)) = c := by
  unfold puAll
  rw [if_neg, pu_hex 16 c (by omega)]
  · show c % 16 ^ 16 = c
    exact Nat.mod_eq_of_lt (by simpa using hc)
  · intro h1
    have := hexN_len1 16 c
    rw [h1] at this
    cases this

section
open Ieee
/-- Numbers that compare equal have the same bits, but for the zeros. -/
theorem order_bits {c d : Nat} (hc : c < 18446744073709551616) (hd : d < 18446744073709551616) (h : double.order c d = some .eq) : c = d ∨ (c = 0 ∨ c = nzero) ∧ (d = 0 ∨ d = nzero) := by
  unfold Format.order at h
  cases hq : double.read c with
  | nan s t => rw [hq] at h; simp [Datum.order] at h
  | infinity s =>
    cases hr : double.read d with
    | nan s t => rw [hq, hr] at h; simp [Datum.order] at h
    | number s2 m e => rw [hq, hr] at h; cases s <;> simp [Datum.order] at h
    | infinity s2 =>
      rw [hq, hr] at h
      have hb : double.binade = 4503599627370496 := by decide +kernel
      have hsw : double.signWeight = 9223372036854775808 := by decide +kernel
      have hi : double.infRung = 9218868437227405312 := by decide +kernel
      have inf : ∀ {c : Nat} {s : Bool}, double.read c = .infinity s → (c / 9223372036854775808 % 2 == 1) = s ∧ c % 9223372036854775808 = 9218868437227405312 := by
        intro c s hq
        unfold Format.read at hq
        rw [hb, hsw, hi] at hq
        simp only at hq
        split at hq
        · cases hq
        · split at hq
          · cases hq
          · split at hq
            · rename_i h3
              simp only [Datum.infinity.injEq] at hq
              exact ⟨hq, h3⟩
            · cases hq
      obtain ⟨a1, a2⟩ := inf hq
      obtain ⟨b1, b2⟩ := inf hr
      have : s = s2 := by cases s <;> cases s2 <;> first | rfl | (simp [Datum.order] at h)
      subst this
      left
      have key : (c / 9223372036854775808 % 2 == 1) = (d / 9223372036854775808 % 2 == 1) := by rw [a1, b1]
      have : (c / 9223372036854775808 % 2 = 1) ↔ (d / 9223372036854775808 % 2 = 1) := by
        have k := Bool.eq_iff_iff.1 key
        rw [beq_iff_eq, beq_iff_eq] at k
        exact k
      omega
  | number s m e =>
    cases hr : double.read d with
    | nan s t => rw [hq, hr] at h; simp [Datum.order] at h
    | infinity s2 => rw [hq, hr] at h; cases s2 <;> simp [Datum.order] at h
    | number s2 m2 e2 =>
      rw [hq, hr] at h
      obtain ⟨r1, r2, r3, r4, r5, r6⟩ := read_number hq
      obtain ⟨q1, q2, q3, q4, q5, q6⟩ := read_number hr
      simp only [Datum.order, Option.some.injEq, Int.compare_eq_eq] at h
      obtain ⟨P, hP⟩ : ∃ P, P = 2 ^ (e - min e e2).toNat := ⟨_, rfl⟩
      obtain ⟨Q, hQ⟩ : ∃ Q, Q = 2 ^ (e2 - min e e2).toNat := ⟨_, rfl⟩
      have P0 : 0 < P := by rw [hP]; exact Nat.two_pow_pos _
      have Q0 : 0 < Q := by rw [hQ]; exact Nat.two_pow_pos _
      have zero : ∀ {c m : Nat} {s : Bool}, c < 18446744073709551616 → m = 0 → c / 9223372036854775808 % 2 = s.toNat → c % 9223372036854775808 = (if m < 4503599627370496 then m else (e + 1074).toNat * 4503599627370496 + m) → c = 0 ∨ c = nzero := by
        intro c m s hc hm h1 h2
        subst hm
        rw [if_pos (by omega)] at h2
        unfold nzero
        omega
      have zero2 : ∀ {c m : Nat} {s : Bool}, c < 18446744073709551616 → m = 0 → c / 9223372036854775808 % 2 = s.toNat → c % 9223372036854775808 = (if m < 4503599627370496 then m else (e2 + 1074).toNat * 4503599627370496 + m) → c = 0 ∨ c = nzero := by
        intro c m s hc hm h1 h2
        subst hm
        rw [if_pos (by omega)] at h2
        unfold nzero
        omega
      have main : m * P = m2 * Q → s = s2 ∨ m = 0 → c = d ∨ (c = 0 ∨ c = nzero) ∧ (d = 0 ∨ d = nzero) := by
        intro hm hs
        rcases Nat.eq_zero_or_pos m with hz | hz
        · have : m2 * Q = 0 := by rw [← hm, hz, Nat.zero_mul]
          have hz2 : m2 = 0 := by
            rcases Nat.mul_eq_zero.1 this with h1 | h1
            · exact h1
            · omega
          exact .inr ⟨zero hc hz r5 r6, zero2 hd hz2 q5 q6⟩
        · have hs2 : s = s2 := by rcases hs with h1 | h1; exact h1; omega
          subst hs2
          left
          have he : e = e2 := by
            rcases (by omega : e = e2 ∨ e < e2 ∨ e2 < e) with h1 | h1 | h1
            · exact h1
            · exfalso
              have e1 : min e e2 = e := by omega
              rw [e1] at hP hQ
              rw [show (e - e).toNat = 0 by omega, Nat.pow_zero] at hP
              have : 2 ^ 1 ≤ Q := by rw [hQ]; exact Nat.pow_le_pow_right (by decide) (by omega)
              have h2 : m2 * 2 ≤ m2 * Q := Nat.mul_le_mul_left _ (by omega)
              rw [hP, Nat.mul_one] at hm
              omega
            · exfalso
              have e1 : min e e2 = e2 := by omega
              rw [e1] at hP hQ
              rw [show (e2 - e2).toNat = 0 by omega, Nat.pow_zero] at hQ
              have : 2 ^ 1 ≤ P := by rw [hP]; exact Nat.pow_le_pow_right (by decide) (by omega)
              have h2 : m * 2 ≤ m * P := Nat.mul_le_mul_left _ (by omega)
              rw [hQ, Nat.mul_one] at hm
              omega
          subst he
          have hPQ : P = Q := by rw [hP, hQ]
          rw [hPQ] at hm
          have : m = m2 := Nat.eq_of_mul_eq_mul_right Q0 hm
          subst this
          omega
      have zm : m * P = 0 → m = 0 := fun h1 => by
        rcases Nat.mul_eq_zero.1 h1 with h2 | h2
        · exact h2
        · omega
      cases s <;> cases s2
      · rw [signed_f, signed_f, ← hP, ← hQ] at h
        exact main (Int.ofNat_inj.1 h) (.inl rfl)
      · rw [signed_f, signed_t, ← hP, ← hQ] at h
        exact main (by omega) (.inr (zm (by omega)))
      · rw [signed_t, signed_f, ← hP, ← hQ] at h
        exact main (by omega) (.inr (zm (by omega)))
      · rw [signed_t, signed_t, ← hP, ← hQ] at h
        exact main (by omega) (.inl rfl)

theorem neg_float (n : Nat) (hn : 0 < n) : Op.negFloat .f64 (floatOfInt .f64 (n : Int)) = floatOfInt .f64 (-(n : Int)) := by
  have key : ∀ r : Nat, r < 9223372036854775808 → Op.negFloat .f64 r = 9223372036854775808 + r := by
    intro r hr
    show r ^^^ 2 ^ 63 = 2 ^ 63 + r
    apply Nat.eq_of_testBit_eq
    intro i
    rw [Nat.testBit_xor, Nat.testBit_two_pow]
    rcases Nat.lt_trichotomy i 63 with h | h | h
    · have e : decide (63 = i) = false := decide_eq_false (by omega)
      rw [Nat.testBit_two_pow_add_gt h, e, Bool.xor_false]
    · subst h
      rw [Nat.testBit_two_pow_add_eq]
      simp
    · have h1 : r < 2 ^ i := Nat.lt_of_lt_of_le hr (Nat.pow_le_pow_right (n := 2) (i := 63) (by decide) (by omega))
      have h2 : 2 ^ 63 + r < 2 ^ i := Nat.lt_of_lt_of_le (m := 2 ^ 64) (by omega) (Nat.pow_le_pow_right (by decide) (by omega))
      have e : decide (63 = i) = false := decide_eq_false (by omega)
      rw [Nat.testBit_lt_two_pow h1, Nat.testBit_lt_two_pow h2, e]
      rfl
  have hsw : double.signWeight = 9223372036854775808 := by decide +kernel
  have hi : double.infRung = 9218868437227405312 := by decide +kernel
  show Op.negFloat .f64 (double.nearest (decide ((n : Int) < 0)) (n : Int).natAbs 0) = double.nearest (decide (-(n : Int) < 0)) (-(n : Int)).natAbs 0
  have e1 : decide ((n : Int) < 0) = false := decide_eq_false (by omega)
  have e2 : decide (-(n : Int) < 0) = true := decide_eq_true (by omega)
  rw [e1, e2, Int.natAbs_neg, Int.natAbs_natCast]
  unfold Format.nearest Format.word
  have z : ¬ n = 0 := by omega
  rw [if_neg z, if_neg z]
  simp only [Bool.false_eq_true, if_false, if_true]
  rw [key _ (by rw [hi]; omega), hsw]
  rfl
end

theorem val_zero : val 0 = 0 := by decide +kernel
/-- A whole number is the float of its value. -/
theorem whole_back {c : Nat} (hc : c < 18446744073709551616) (ho : ¬ isOdd c) (h : isWhole c = true) : c = floatOfInt .f64 (val c) ∧ -9007199254740992 < val c ∧ val c < 9007199254740992 := by
  unfold isWhole at h
  rw [Bool.and_eq_true, beq_iff_eq] at h
  obtain ⟨h1, h2⟩ := h
  obtain ⟨v1, v2, v3⟩ := inR_val h1
  refine ⟨?_, v2, v3⟩
  rcases order_bits hc (floatOfInt_lt _) h2 with h3 | ⟨h3, h4⟩
  · exact h3
  · have h5 : c = 0 := by
      rcases h3 with h3 | h3
      · exact h3
      · exact absurd (.inr (.inr (.inr h3))) ho
    subst h5
    rw [val_zero]
    decide +kernel

theorem dec_zero {u : Nat} {r : List UInt8} (h : Lib.decDigits u = 48 :: r) : u = 0 := by
  by_cases h9 : 9 < u
  · exfalso
    revert r
    induction u using Nat.strongRecOn with
    | _ u ih =>
      intro r h
      rw [dec_step h9] at h
      by_cases h10 : 9 < u / 10
      · obtain ⟨b, t, h1, _, _⟩ := dec_cons (u / 10)
        rw [h1] at h
        simp only [List.cons_append, List.cons.injEq] at h
        rw [h.1] at h1
        exact ih (u / 10) (by omega) h10 h1
      · rw [dec_last h10] at h
        simp only [List.cons_append, List.cons.injEq] at h
        have := hexd_digit (u / 10) (by omega)
        rw [h.1] at this
        have e : Lib.digitVal 48 = some 0 := by decide +kernel
        rw [e] at this
        have := Option.some.inj this.2.2
        omega
  · rw [dec_last h9] at h
    have := hexd_digit u (by omega)
    rw [(List.cons.inj h).1] at this
    have e : Lib.digitVal 48 = some 0 := by decide +kernel
    rw [e] at this
    exact (Option.some.inj this.2.2).symm

/-- The first bytes of a numeral. -/
theorem itoa_head (n : Int) : (∃ b r, Lib.itoa n = b :: r ∧ 48 ≤ b.toNat ∧ b.toNat ≤ 57 ∧ 0 ≤ n ∧ Lib.decDigits n.toNat = b :: r) ∨ (∃ b r, Lib.itoa n = 45 :: b :: r ∧ 49 ≤ b.toNat ∧ b.toNat ≤ 57 ∧ n < 0 ∧ Lib.decDigits n.natAbs = b :: r) := by
  unfold Lib.itoa
  split
  · rename_i h
    obtain ⟨b, r, h1, h2, h3⟩ := dec_cons n.natAbs
    refine .inr ⟨b, r, by rw [h1], ?_, h3, h, h1⟩
    rcases (by omega : b.toNat = 48 ∨ 49 ≤ b.toNat) with h4 | h4
    · have : b = 48 := UInt8.toNat_inj.1 h4
      subst this
      have := dec_zero h1
      omega
    · exact h4
  · obtain ⟨b, r, h1, h2, h3⟩ := dec_cons n.toNat
    exact .inl ⟨b, r, h1, h2, h3, by omega, h1⟩

theorem ne_of_nat {a : UInt8} {k : UInt8} (h : a.toNat ≠ k.toNat) : a ≠ k := fun e => h (by rw [e])
theorem itoa_odd (n : Int) : Lib.itoa n ≠ [110, 97, 110] ∧ Lib.itoa n ≠ [105, 110, 102] ∧ Lib.itoa n ≠ [45, 105, 110, 102] ∧ Lib.itoa n ≠ [45, 48] ∧ ∀ r, Lib.itoa n ≠ 120 :: r := by
  rcases itoa_head n with ⟨b, r, h1, h2, h3, _⟩ | ⟨b, r, h1, h2, h3, _⟩
  all_goals
    rw [h1]
    refine ⟨?_, ?_, ?_, ?_, ?_⟩
    all_goals
      intros
      intro h
      simp only [List.cons.injEq] at h
      first
        | (have := congrArg UInt8.toNat h.1
           simp at this
           omega)
        | (have := congrArg UInt8.toNat h.2.1
           simp at this
           omega)
        | (have := h.1
           revert this
           decide)
theorem prefix_x (l : List UInt8) : Lib.hasPrefix l [120] = true ↔ ∃ r, l = 120 :: r := by
  cases l with
  | nil => simp [Lib.hasPrefix]
  | cons c r =>
    unfold Lib.hasPrefix
    constructor
    · intro h
      have : 120 = c := by simpa using h
      exact ⟨r, by rw [← this]⟩
    · rintro ⟨t, h⟩
      rw [(List.cons.inj h).1]
      simp

theorem tguess_prt {c : Nat} (hc : c < 18446744073709551616) (hf : fx c = c) : tguess (prt c) = c := by
  by_cases ho : isOdd c
  · rcases ho with rfl | rfl | rfl | rfl <;> decide +kernel
  · rw [prt_odd ho]
    by_cases hw : isWhole c = true
    · rw [if_pos hw]
      obtain ⟨h1, h2, h3⟩ := whole_back hc ho hw
      obtain ⟨o1, o2, o3, o4, o5⟩ := itoa_odd (val c)
      unfold tguess
      rw [if_neg o1, if_neg o2, if_neg o3, if_neg o4, if_neg (by rw [prefix_x]; rintro ⟨r, h⟩; exact o5 r h), piVal_itoa h2 h3]
      exact h1.symm
    · rw [if_neg hw]
      unfold tguess
      rw [if_neg (by simp), if_neg (by simp), if_neg (by simp), if_neg (by simp), if_pos (by rw [prefix_x]; exact ⟨_, rfl⟩)]
      rw [List.tail_cons, puAll_hex hc, hf]

theorem dguess_prt {c : Nat} (hc : c < 18446744073709551616) (hf : fx c = c) : dguess (prt c) = c := by
  by_cases ho : isOdd c
  · rcases ho with rfl | rfl | rfl | rfl <;> decide +kernel
  · rw [prt_odd ho]
    by_cases hw : isWhole c = true
    · rw [if_pos hw]
      obtain ⟨h1, h2, h3⟩ := whole_back hc ho hw
      obtain ⟨o1, o2, o3, o4, o5⟩ := itoa_odd (val c)
      rw [dg_rest o1 o2 o3 o4]
      rw [if_neg (by
        rintro ⟨_, h⟩
        cases hl : Lib.itoa (val c) with
        | nil => rw [hl] at h; cases h
        | cons a r =>
          rw [hl] at h
          simp only [List.head?_cons, Option.some.injEq] at h
          exact o5 r (by rw [hl, h]))]
      rcases itoa_head (val c) with ⟨b, r, g1, g2, g3, g4, g5⟩ | ⟨b, r, g1, g2, g3, g4, g5⟩
      · rw [g1, if_neg (by
          simp only [List.head?_cons, Option.some.injEq]
          rintro rfl
          exact absurd g2 (by decide)), ← g5, rd_dec (by omega)]
        show floatOfInt .f64 ((val c).toNat : Int) = c
        rw [show ((val c).toNat : Int) = val c by omega]
        exact h1.symm
      · rw [g1, if_pos (by simp), List.tail_cons, ← g5, rd_dec (by omega)]
        show Op.negFloat .f64 (floatOfInt .f64 ((val c).natAbs : Int)) = c
        rw [neg_float _ (by omega), show -((val c).natAbs : Int) = val c by omega]
        exact h1.symm
    · rw [if_neg hw]
      rw [dg_rest (by simp [oddT]) (by simp [oddT]) (by simp [oddT]) (by simp [oddT]), if_pos ⟨by simp [hexN_len1], by simp⟩]
      rw [List.tail_cons, rd_hex hc]
      exact hf

/-- The document's Parse. -/
def dparseE (l : List UInt8) : Int := if prt (fx (dguess l)) = l then 0 else 20
def dparseB (l : List UInt8) : Nat := if prt (fx (dguess l)) = l then dguess l else 0
theorem tparse (c : Nat) (hc : c < 18446744073709551616) (hf : fx c = c) : parseE (prt c) = 0 ∧ parseB (prt c) = c := by
  unfold parseE parseB
  rw [tguess_prt hc hf]
  simp
theorem negFloat_lt {n : Nat} (h : n < 18446744073709551616) : Op.negFloat .f64 n < 18446744073709551616 := by
  show n ^^^ 2 ^ 63 < 2 ^ 64
  exact Nat.xor_lt_two_pow h (by decide)
theorem rd_lt (l : List UInt8) : (rd 16 l).getD 0 < 18446744073709551616 := by
  have key : ∀ (l : List UInt8) acc k v, acc < 16 ^ k → rdl 16 acc l = some v → v < 16 ^ (k + l.length) := by
    intro l
    induction l with
    | nil => intro acc k v h1 h2; simp [rdl] at h2; subst h2; simpa using h1
    | cons c r ih =>
      intro acc k v h1 h2
      simp only [rdl] at h2
      split at h2
      · cases h2
      · have := wv_lt 16 c.toNat
        have := ih _ (k + 1) v (step_lt h1 (.inr rfl) (by omega)) h2
        rwa [show k + 1 + r.length = k + (c :: r).length by simp; omega] at this
  unfold rd
  split
  · decide
  · rename_i h
    cases hv : rdl 16 0 l with
    | none => decide
    | some v =>
      have := key l 0 0 v (by decide) hv
      have h2 : 16 ^ (0 + l.length) ≤ 16 ^ 16 := Nat.pow_le_pow_right (by decide) (by omega)
      have h3 : (16 : Nat) ^ 16 = 18446744073709551616 := by decide
      simp only [Option.getD_some]
      omega
theorem dguess_lt (l : List UInt8) : dguess l < 18446744073709551616 := by
  unfold dguess
  repeat' split
  all_goals first | decide +kernel | exact fx_lt (rd_lt _) | exact negFloat_lt (floatOfInt_lt _) | exact floatOfInt_lt _
/-- Both parse alike. -/
theorem parse_same (l : List UInt8) : parseE l = dparseE l ∧ parseB l = dparseB l := by
  by_cases h : prt (tguess l) = l
  · have h2 : dguess l = tguess l := by
      have := dguess_prt (tguess_lt l) (fx_tguess l)
      rwa [h] at this
    unfold parseE parseB dparseE dparseB
    rw [h2, fx_tguess]
    exact ⟨rfl, rfl⟩
  · by_cases h3 : prt (fx (dguess l)) = l
    · exfalso
      have := tguess_prt (fx_lt (dguess_lt l)) (fx_fx _)
      rw [h3] at this
      exact h (by rw [this]; exact h3)
    · unfold parseE parseB dparseE dparseB
      rw [if_neg h, if_neg h3, if_neg h, if_neg h3]
      exact ⟨rfl, rfl⟩
theorem prt_inj {c d : Nat} (hc : c < 18446744073709551616) (hf : fx c = c) (hd : d < 18446744073709551616) (hg : fx d = d) (h : prt c = prt d) : c = d := by
  have := tguess_prt hc hf
  rw [h, tguess_prt hd hg] at this
  exact this.symm
end Go.Proofs.YtjlnhifleepnoaaGreatDoor
