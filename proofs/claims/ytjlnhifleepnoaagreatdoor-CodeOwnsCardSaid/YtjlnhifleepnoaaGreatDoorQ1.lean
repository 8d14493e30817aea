import Derived.Test.YtjlnhifleepnoaaGreatDoorP7
set_option linter.unusedVariables false
set_option linter.unusedSimpArgs false
namespace Go.Proofs.YtjlnhifleepnoaaGreatDoor
open Go.RowKit

set_option maxRecDepth 100000 in
theorem rfix_walk (b : Nat) (w : World) : Calls Tryz.prog 73 #[.float .f64 b] w fun e w' => e = .returned (.float .f64 (fx b)) ∧ w' = w := by
  have e38 := run_frombits
  cases h : bad b
  · have h2 : (FloatKind.f64.format.order b b != some Ordering.eq) = false := h
    have g : fx b = b := by simp [fx, h]
    rw [g]
    clear h g
    go_enter Tryz.func73, Tryz.ntmps73
    go_wp2
    go_ret
    exact ⟨rfl, rfl⟩
  · have h2 : (FloatKind.f64.format.order b b != some Ordering.eq) = true := h
    have g : fx b = theNaN := by simp [fx, h]
    rw [g]
    clear h g
    go_enter Tryz.func73, Tryz.ntmps73
    go_wp2
    go_ret
    exact ⟨rfl, rfl⟩

set_option maxRecDepth 100000 in
theorem rof_walk (n : Nat) (w : World) : Calls Tryz.prog 54 #[.int .u64 n] w fun e w' => e = .returned (.float .f64 (fx n)) ∧ w' = w := by
  have e38 := run_frombits
  go_enter Tryz.func54, Tryz.ntmps54
  go_wp2_with (go_at_call 73; refine (rfix_walk _ _).mono ?_; rintro e w' ⟨rfl, rfl⟩)
  go_ret
  exact ⟨rfl, rfl⟩

/-- What a byte is worth among the first B digits; -1: nothing. -/
def wv (B c : Nat) : Int := if 48 ≤ c ∧ c ≤ 57 ∧ c - 48 < B then ((c - 48 : Nat) : Int) else if 97 ≤ c ∧ c ≤ 102 ∧ c - 87 < B then ((c - 87 : Nat) : Int) else -1
theorem hexd_val : ∀ j, j < 16 → (hexd j).toNat = if j < 10 then 48 + j else 87 + j := by decide +kernel
theorem wv_hit {B c j : Nat} (hj : j < 16) (hB : j < B) (h : (hexd j).toNat = c) : wv B c = (j : Int) := by
  rw [hexd_val j hj] at h
  unfold wv
  split at h
  · rw [if_pos ⟨by omega, by omega, by omega⟩]; omega
  · rw [if_neg (by omega), if_pos ⟨by omega, by omega, by omega⟩]; omega
theorem wv_miss {B c : Nat} (hB : B ≤ 16) (h : ∀ j, j < B → (hexd j).toNat ≠ c) : wv B c = -1 := by
  unfold wv
  split
  · rename_i q
    have := h (c - 48) q.2.2
    rw [hexd_val _ (by omega), if_pos (by omega)] at this
    omega
  · split
    · rename_i q
      have := h (c - 87) q.2.2
      rw [hexd_val _ (by omega), if_neg (by omega)] at this
      omega
    · rfl
theorem digs_idx : ∀ j : Nat, (h : j < 16) → (digs[j]'h).toNat = (hexd j).toNat := by decide +kernel

set_option maxRecDepth 100000 in
theorem worth_walk (c B : Nat) (w : World) (hB : B ≤ 16) : Calls Tryz.prog 74 #[.int .u8 c, .int .i64 B] w fun e w' => e = .returned (.int .i64 (wv B c)) ∧ w' = w := by
  go_enter Tryz.func74, Tryz.ntmps74
  go_wp2
  go_loopw [5] (fun n wr => ∃ i : Nat, wr = w ∧ n = .int .i64 i ∧ i ≤ B ∧ ∀ j, j < i → (hexd j).toNat ≠ c) (fun n _ => B - (intOf n).toNat)
  case atStart => exact ⟨0, rfl, rfl, by omega, fun j h => by omega⟩
  case round =>
    obtain ⟨i, rfl, rfl, hi, hj⟩ := hrel
    have HJ := Lib.hid hj; clear hj
    by_cases h : i < B
    · have h' : (i : Int) < B := by omega
      have h16 : i < 16 := by omega
      have h16' : (i : Int) < 16 := by omega
      have e := digs_idx i h16
      unfold digs at e
      by_cases hc : (hexd i).toNat = c
      · have t1 : (((hexd i).toNat : Int) == (c : Int)) = true := by simp [hc]
        rw [← e] at t1
        have W := Lib.hid (wv_hit (B := B) h16 h hc)
        clear e hc
        go_wp2
        go_ret
        exact ⟨by rw [W.out]; rfl, rfl⟩
      · have t1 : (((hexd i).toNat : Int) == (c : Int)) = false := by simp only [beq_eq_false_iff_ne, ne_eq]; omega
        rw [← e] at t1
        have HC := Lib.hid hc
        clear e hc
        go_wp2
        go_roundw
        case rel => exact ⟨i + 1, trivial, by go_num, by omega, fun j hj => by rcases Nat.lt_succ_iff_lt_or_eq.1 hj with h | rfl; exact HJ.out j h; exact HC.out⟩
        case measure => simp [intOf] <;> omega
    · obtain rfl : i = B := by omega
      have W := Lib.hid (wv_miss hB HJ.out)
      go_wp2
      go_ret
      exact ⟨by rw [W.out]; rfl, rfl⟩
end Go.Proofs.YtjlnhifleepnoaaGreatDoor
