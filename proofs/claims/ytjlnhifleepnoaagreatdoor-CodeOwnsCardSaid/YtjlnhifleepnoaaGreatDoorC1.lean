import Derived.Test.YtjlnhifleepnoaaGreatDoorB1
import Derived.Lib.ItoaNum
set_option linter.unusedVariables false
set_option linter.unusedSimpArgs false
namespace Go.Proofs.YtjlnhifleepnoaaGreatDoor
open Go.RowKit

/-- The text of these bytes. -/
def S (l : List UInt8) : ByteArray := ⟨l.toArray⟩
theorem S_add (a b : List UInt8) : S a ++ S b = S (a ++ b) := by
  apply ByteArray.ext
  rw [ByteArray.data_append]
  simp [S]
theorem S_size (l : List UInt8) : (S l).size = l.length := by simp [S, ByteArray.size]
def hexd (d : Nat) : UInt8 := if d < 10 then UInt8.ofNat (48 + d) else UInt8.ofNat (87 + d)
def digs : ByteArray := ⟨#[48, 49, 50, 51, 52, 53, 54, 55, 56, 57, 97, 98, 99, 100, 101, 102]⟩
theorem digs_at : ∀ d, d < 16 → digs.extract d (d + 1) = S [hexd d] := by decide +kernel
theorem digs_size : digs.size = 16 := rfl

/-- The document's decimal: the digits. -/
theorem dec_step {n : Nat} (h : 9 < n) : Lib.decDigits n = Lib.decDigits (n / 10) ++ [hexd (n % 10)] := by
  rw [Lib.decDigits, dif_neg (by omega)]
  have : n % 10 < 10 := by omega
  simp [hexd, this]
theorem dec_last {n : Nat} (h : ¬ 9 < n) : Lib.decDigits n = [hexd n] := by
  rw [Lib.decDigits, dif_pos (by omega)]
  have : n < 10 := by omega
  simp [hexd, this]

set_option maxRecDepth 100000 in
theorem decimal_walk (n : Nat) (w : World) (hn : n ≤ 9007199254740992) : Calls Tryz.prog 56 #[.int .i64 n] w fun e w' => e = .returned (.string (S (Lib.decDigits n))) ∧ w' = w := by
  go_enter Tryz.func56, Tryz.ntmps56
  go_wp2
  go_loopw [0, 3] (fun k t wr => ∃ (m : Nat) (l : List UInt8), wr = w ∧ k = .int .i64 m ∧ t = .string (S l) ∧ m ≤ n ∧ l.length ≤ n - m ∧ Lib.decDigits n = Lib.decDigits m ++ l) (fun k _ _ => (intOf k).toNat)
  case atStart => exact ⟨n, [], rfl, rfl, rfl, by omega, by simp, by simp⟩
  case round =>
    obtain ⟨m, l, rfl, rfl, rfl, hm, hlen, hl⟩ := hrel
    have HL := Lib.hid hl; clear hl
    by_cases h : 9 < m
    · have h' : (9 : Int) < m := by omega
      have E := Lib.hid (dec_step h)
      have hsz : ¬ 9223372036854775807 < min (m % 10 + 1) 16 - m % 10 + (S l).size := by rw [S_size]; omega
      go_wp2
      go_roundw
      case rel =>
        refine ⟨m / 10, hexd (m % 10) :: l, trivial, by go_num, ?_, by omega, by simp; omega, by rw [HL.out, E.out]; simp⟩
        have e := digs_at (m % 10) (by omega)
        unfold digs at e
        rw [e, S_add]
        rfl
      case measure => simp [intOf] <;> omega
    · have h' : ¬ (9 : Int) < m := by omega
      have E := Lib.hid (dec_last h)
      have hsz : ¬ 9223372036854775807 < min (m + 1) 16 - m + (S l).size := by rw [S_size]; omega
      go_wp2
      go_ret
      refine ⟨?_, rfl⟩
      have e := digs_at m (by omega)
      unfold digs at e
      rw [HL.out, E.out, ← S_add, ← e]
      rfl

/-- The last k digits of b to the base 16. -/
def hexN : Nat → Nat → List UInt8
  | 0, _ => []
  | k + 1, b => hexN k (b / 16) ++ [hexd (b % 16)]

set_option maxRecDepth 100000 in
theorem wide_walk (b : Nat) (w : World) (hb : b < 18446744073709551616) : Calls Tryz.prog 57 #[.int .u64 b] w fun e w' => e = .returned (.string (S (120 :: hexN 16 b))) ∧ w' = w := by
  go_enter Tryz.func57, Tryz.ntmps57
  go_wp2
  go_loopw [0, 3, 4] (fun k t i wr => ∃ (c j : Nat) (l : List UInt8), wr = w ∧ k = .int .u64 c ∧ t = .string (S l) ∧ i = .int .i64 j ∧ j ≤ 16 ∧ c < 18446744073709551616 ∧ l.length = j ∧ hexN 16 b = hexN (16 - j) c ++ l) (fun _ _ i _ => 16 - (intOf i).toNat)
  case atStart => exact ⟨b, 0, [], rfl, rfl, rfl, rfl, by omega, by omega, by simp, by simp⟩
  case round =>
    obtain ⟨c, j, l, rfl, rfl, rfl, rfl, hj, hc, hlen, hl⟩ := hrel
    have HL := Lib.hid hl; clear hl
    have HN := Lib.hid hlen; clear hlen
    have hsl : (S l).size = j := by rw [S_size]; exact HN.out
    by_cases h : j < 16
    · have h' : (j : Int) < 16 := by omega
      have hd : (c % 16 : Nat) < 16 := by omega
      have hsz : ¬ 9223372036854775807 < min (c % 16 + 1) 16 - c % 16 + (S l).size := by omega
      go_wp2
      go_roundw
      case rel =>
        refine ⟨c / 16, j + 1, hexd (c % 16) :: l, trivial, by go_num, ?_, by go_num, by omega, by omega, by simp [HN.out], ?_⟩
        · have e := digs_at (c % 16) hd
          unfold digs at e
          rw [e, S_add]
          rfl
        · rw [HL.out]
          obtain ⟨q, hq⟩ : ∃ q, 16 - j = q + 1 := ⟨15 - j, by omega⟩
          rw [hq, show 16 - (j + 1) = q by omega]
          simp [hexN]
      case measure => simp [intOf] <;> omega
    · obtain rfl : j = 16 := by omega
      have hsz : ¬ 9223372036854775807 < 1 + (S l).size := by omega
      go_wp2
      go_ret
      refine ⟨?_, rfl⟩
      rw [HL.out, show (120 :: (hexN (16 - 16) c ++ l)) = [120] ++ l by simp [hexN], ← S_add]
      rfl
end Go.Proofs.YtjlnhifleepnoaaGreatDoor
