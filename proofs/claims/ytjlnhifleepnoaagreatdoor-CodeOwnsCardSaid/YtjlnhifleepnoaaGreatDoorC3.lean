import Derived.Test.YtjlnhifleepnoaaGreatDoorC2
import Derived.Laws.BytesString
import Derived.Laws.BitsAllLaws
set_option linter.unusedVariables false
set_option linter.unusedSimpArgs false
namespace Go.Proofs.YtjlnhifleepnoaaGreatDoor
open Go.RowKit

/-- The digits of b to the base 16, the first ahead; one for 0. -/
def hexMin (b : Nat) : List UInt8 :=
  if h : b < 16 then [hexd b] else hexMin (b / 16) ++ [hexd (b % 16)]
termination_by b
decreasing_by omega
theorem hex_step {b : Nat} (h : 16 ≤ b) : hexMin b = hexMin (b / 16) ++ [hexd (b % 16)] := by
  rw [hexMin, dif_neg (by omega)]
theorem hex_last {b : Nat} (h : ¬ 16 ≤ b) : hexMin b = [hexd b] := by
  rw [hexMin, dif_pos (by omega)]

/-- 65 cells: i of 0, then the bytes of l. -/
def row65 (i : Nat) (l : List UInt8) : Array Value := (List.replicate i (Value.int .u8 0) ++ l.map (fun b : UInt8 => Value.int .u8 (b.toNat : Int))).toArray

theorem row65_at (m : Nat) (l : List UInt8) : (row65 (m + 1) l)[m]? = some (Value.int .u8 0) := by
  simp only [row65, List.getElem?_toArray]
  rw [List.getElem?_append_left (by simp)]
  simp
theorem row65_put (m : Nat) (l : List UInt8) (v : Value) (d : UInt8) (h : v = .int .u8 (d.toNat : Int)) : (row65 (m + 1) l).setIfInBounds m v = row65 m (d :: l) := by
  subst h
  simp only [row65, List.setIfInBounds_toArray, List.replicate_succ', List.append_assoc]
  congr 1
  rw [List.set_append_right _ _ (by simp)]
  simp
theorem len_lt {k c b : Nat} (h : 16 ^ k * c ≤ b) (hc : 16 ≤ c) (hb : b < 18446744073709551616) : k + 1 ≤ 15 := by
  have h1 : 16 ^ (k + 1) ≤ b := by
    rw [Nat.pow_succ]
    exact Nat.le_trans (Nat.mul_le_mul_left _ hc) h
  have h2 : 16 ^ (k + 1) < 16 ^ 16 := Nat.lt_of_le_of_lt h1 (by simpa using hb)
  have := (Nat.pow_lt_pow_iff_right (by decide : 1 < 16)).1 h2
  omega
theorem len_le {k c b : Nat} (h : 16 ^ k * c ≤ b) : 16 ^ (k + 1) * (c / 16) ≤ b := by
  rw [Nat.pow_succ, Nat.mul_assoc]
  exact Nat.le_trans (Nat.mul_le_mul_left _ (Nat.mul_div_le c 16)) h

def d36 : ByteArray := ⟨#[48, 49, 50, 51, 52, 53, 54, 55, 56, 57, 97, 98, 99, 100, 101, 102, 103, 104, 105, 106, 107, 108, 109, 110, 111, 112, 113, 114, 115, 116, 117, 118, 119, 120, 121, 122]⟩
theorem dig36 : ∀ d : Nat, (h : d < 16) → (d36[d]'(Nat.lt_trans h (by decide))).toNat = (hexd d).toNat := by decide +kernel

theorem push_all : ∀ (l : List UInt8) (a : ByteArray), (l.map (fun b : UInt8 => (b.toNat : Int))).foldl (fun r n => r.push (UInt8.ofNat n.toNat)) a = a ++ S l
  | [], a => by
    apply ByteArray.ext
    rw [ByteArray.data_append]
    simp [S]
  | x :: l, a => by
    simp only [List.map_cons, List.foldl_cons]
    rw [push_all l]
    apply ByteArray.ext
    simp only [ByteArray.data_append, ByteArray.data_push, S]
    simp
theorem conv_row (W : World) (blk m c : Nat) (l : List UInt8) (hl : m + l.length = 65) (hr : W.heap[blk]? = some (.cells (row65 m l) 128 (0, 0))) (hc : c = l.length) :
    (convert 49 9 (.slice (some ⟨blk, m, none⟩) c c)).run Tryz.prog W = .ok (.string (S l)) W := by
  subst hc
  rw [run_convert_bytes_string W 49 9 5 _ _ _ (by kernel_rfl) (by kernel_rfl) (by kernel_rfl)]
  have := run_loadCells_list (P := Tryz.prog) W ⟨blk, m, none⟩ (l.map (fun b : UInt8 => Value.int .u8 (b.toNat : Int))) (fun j v hj => by
    rw [Addr.add_lit, cell_of_row _ _ _ _ _ _ hr]
    simp only [row65, List.getElem?_toArray]
    rw [List.getElem?_append_right (by simp)]
    simpa using hj)
  rw [List.length_map] at this
  have h2 := run_bytesToString (P := Tryz.prog) W ⟨blk, m, none⟩ l.length l.length (l.map (fun b : UInt8 => (b.toNat : Int))) (by
    rw [this]
    simp [Function.comp_def])
  rw [h2, push_all]
  congr 2

theorem pow2_walk (w : World) : Calls Tryz.prog 95 #[.int .i64 16] w fun e w' => e = .returned (.bool true) ∧ w' = w := by
  have e4 : bits .and .i64 16 15 = 0 := by decide +kernel
  go_enter Tryz.func95, Tryz.ntmps95
  go_wp2
  go_ret
  exact ⟨rfl, rfl⟩

theorem tz_walk (w : World) (h : w.cell? ⟨6, 15, none⟩ = some (.int .u8 4)) : Calls Tryz.prog 96 #[.int .u64 16] w fun e w' => e = .returned (.int .i64 4) ∧ w' = w := by
  have e1 : bits .and .u64 16 (IntKind.u64.wrap (-16)) = 16 := by decide +kernel
  have e2 : IntKind.u64.wrap (16 * 285870213051353865) = 4573923408821661840 := by decide +kernel
  have e3 : (4573923408821661840 : Int) / 288230376151711744 = 15 := by decide +kernel
  go_enter Tryz.func96, Tryz.ntmps96
  go_wp2
  go_ret
  exact ⟨rfl, rfl⟩

set_option maxRecDepth 100000 in
theorem bits16 (b : Nat) (w : World) (hb : b < 18446744073709551616) (hz : w.cell? ⟨6, 15, none⟩ = some (.int .u8 4)) :
    Calls Tryz.prog 78 #[.slice none 0 0, .int .u64 b, .int .i64 16, .bool false, .bool false] w fun e w' => e = .returned (.tuple #[.slice none 0 0, .string (S (hexMin b))]) ∧ Below w.heap.size w w' := by
  have hz' : ∀ o, (w.alloc o).cell? ⟨6, 15, none⟩ = some (.int .u8 4) := fun o => by
    rw [World.cell?_of_block (w := w) (Below.heap_alloc _ _ _ (block_lt_of_cell hz))]
    exact hz
  go_enter Tryz.func78, Tryz.ntmps78
  go_wp2_with (first | (go_at_call 95; refine (pow2_walk _).mono ?_; rintro e w' ⟨rfl, rfl⟩) | (go_at_call 96; refine (tz_walk _ (hz' _)).mono ?_; rintro e w' ⟨rfl, rfl⟩))
  go_loopw [1, 13] (fun u k wr => ∃ (c n : Nat) (l : List UInt8), u = .int .u64 c ∧ k = .int .i64 n ∧ n + l.length = 65 ∧ l.length ≤ 15 ∧ 16 ^ l.length * c ≤ b ∧ c < 18446744073709551616 ∧ hexMin b = hexMin c ++ l ∧ Chg [] w wr ∧ wr.heap[w.heap.size]? = some (.cells (row65 n l) 128 (0, 0))) (fun u _ _ => (intOf u).toNat)
  case atStart =>
    refine ⟨b, 65, [], rfl, rfl, by simp, by simp, by simp, hb, by simp, (Chg.refl _ _).alloc _, ?_⟩
    rw [heap_alloc_new]
    rfl
  case round =>
    obtain ⟨c, n, l, rfl, rfl, hn, hl, hle, hc, hx, chg, hrow⟩ := hrel
    have HX := Lib.hid hx; clear hx
    have CHG := Lib.hid chg; clear chg
    have ROW := Lib.hid hrow; clear hrow
    have HLE := Lib.hid hle; clear hle
    by_cases h : 16 ≤ c
    · have h' : (16 : Int) ≤ c := by omega
      obtain ⟨m, rfl⟩ : ∃ m, n = m + 1 := ⟨n - 1, by omega⟩
      have g1 : wr.cell? ⟨w.heap.size, m, none⟩ = some (.int .u8 0) := by
        rw [cell_of_row _ _ _ _ _ _ ROW.out]
        exact row65_at m l
      have g2 : wr.frozen? ⟨w.heap.size, m, none⟩ = false := frozen_of_row _ _ _ _ _ ROW.out
      have e5 : bits .and .u64 c 15 = ((c % 16 : Nat) : Int) := by
        rw [show (15 : Int) = ((15 : Nat) : Int) from rfl, u64_and_nat c 15 hc (by decide), show 15 = 2 ^ 4 - 1 by decide, Nat.and_two_pow_sub_one_eq_mod]
      have hd : c % 16 < 16 := by omega
      go_wp2
      go_roundw
      case rel =>
        refine ⟨c / 16, m, hexd (c % 16) :: l, by go_num, by go_num, by simp; omega, ?_, ?_, by omega, by rw [HX.out, hex_step h]; simp, CHG.out.setCell (.inr (Nat.le_refl _)) _, ?_⟩
        · simp only [List.length_cons]
          exact len_lt HLE.out h hb
        · simp only [List.length_cons]
          exact len_le HLE.out
        · rw [heap_put ROW.out (row65_put m l _ (hexd (c % 16)) ?_)]
          exact congrArg (fun k : Nat => Value.int .u8 (k : Int)) (dig36 _ hd)
      case measure => simp [intOf] <;> omega
    · have h' : ¬ (16 : Int) ≤ c := by omega
      obtain ⟨m, rfl⟩ : ∃ m, n = m + 1 := ⟨n - 1, by omega⟩
      have g1 : wr.cell? ⟨w.heap.size, m, none⟩ = some (.int .u8 0) := by
        rw [cell_of_row _ _ _ _ _ _ ROW.out]
        exact row65_at m l
      have g2 : wr.frozen? ⟨w.heap.size, m, none⟩ = false := frozen_of_row _ _ _ _ _ ROW.out
      have hd : c < 16 := by omega
      have hd2 : (c : Int) < 36 := by omega
      have hm1 : (m : Int) ≤ 65 := by omega
      have hm2 : m ≤ 65 := by omega
      have cv := conv_row (wr.setCell ⟨w.heap.size, m, none⟩ (.int .u8 ((d36[c]'(Nat.lt_trans hd (by decide))).toNat : Int))) w.heap.size m (65 - m) (hexd c :: l) (by simp; omega)
        (by rw [heap_put ROW.out (row65_put m l _ (hexd c) (congrArg (fun k : Nat => Value.int .u8 (k : Int)) (dig36 _ hd)))]) (by simp; omega)
      unfold d36 at cv
      go_wp2
      go_ret2
      refine ⟨?_, ?_⟩
      · rw [HX.out, hex_last h]
        rfl
      · exact (CHG.out.setCell (.inr (Nat.le_refl _)) _).below (Nat.le_refl _) (by simp)

theorem iformat16 (b : Nat) (w : World) (hb : b < 18446744073709551616) (hz : w.cell? ⟨6, 15, none⟩ = some (.int .u8 4)) :
    Calls Tryz.prog 59 #[.int .u64 b, .int .i64 16] w fun e w' => e = .returned (.string (S (hexMin b))) ∧ Below w.heap.size w w' := by
  go_enter Tryz.func59, Tryz.ntmps59
  go_wp2_with (go_at_call 78; refine (bits16 b _ hb hz).mono ?_; rintro e w' ⟨rfl, bel⟩)
  go_ret
  exact ⟨rfl, bel⟩
theorem format16 (b : Nat) (w : World) (hb : b < 18446744073709551616) (hz : w.cell? ⟨6, 15, none⟩ = some (.int .u8 4)) :
    Calls Tryz.prog 46 #[.int .u64 b, .int .i64 16] w fun e w' => e = .returned (.string (S (hexMin b))) ∧ Below w.heap.size w w' := by
  go_enter Tryz.func46, Tryz.ntmps46
  go_wp2_with (go_at_call 59; refine (iformat16 b _ hb hz).mono ?_; rintro e w' ⟨rfl, bel⟩)
  go_ret
  exact ⟨rfl, bel⟩

/-- 16 digits are the digits behind as many '0' as are wanting. -/
theorem hexN_eq : ∀ k b, b < 16 ^ (k + 1) → hexN (k + 1) b = List.replicate (k + 1 - (hexMin b).length) 48 ++ hexMin b ∧ (hexMin b).length ≤ k + 1
  | 0, b, h => by
    rw [hex_last (by simp at h; omega)]
    have : b % 16 = b := by simp at h; omega
    simp [hexN, this]
  | k + 1, b, h => by
    by_cases hb : 16 ≤ b
    · have ih := hexN_eq k (b / 16) (by rw [Nat.pow_succ] at h; omega)
      rw [hexN, hex_step hb, ih.1]
      simp
      exact ih.2
    · rw [hex_last hb, hexN]
      have e0 : b / 16 = 0 := by omega
      have e1 : b % 16 = b := by omega
      have z : ∀ j, hexN j 0 = List.replicate j 48 := by
        intro j
        induction j with
        | zero => rfl
        | succ j ih => simp [hexN, ih, List.replicate_succ', hexd]
      rw [e0, e1, z]
      simp
end Go.Proofs.YtjlnhifleepnoaaGreatDoor
