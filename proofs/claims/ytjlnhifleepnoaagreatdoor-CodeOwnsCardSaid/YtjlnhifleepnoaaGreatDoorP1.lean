import Derived.Test.YtjlnhifleepnoaaGreatDoorC4
import Derived.Lib.ConvBytes
import Derived.Lib.AtoiErrMem
import Derived.Laws.Closers25b
set_option linter.unusedVariables false
set_option linter.unusedSimpArgs false
namespace Go.Proofs.YtjlnhifleepnoaaGreatDoor
open Go.RowKit

/-- What a byte is worth as a digit; 255: nothing. -/
def dv (c : UInt8) : Nat :=
  if 48 ≤ c.toNat ∧ c.toNat ≤ 57 then c.toNat - 48
  else if 97 ≤ bits .or .u8 (c.toNat : Int) 32 ∧ bits .or .u8 (c.toNat : Int) 32 ≤ 122 then (bits .or .u8 (c.toNat : Int) 32).toNat - 87 else 255
/-- Digits to the base B read on behind what the former ones say. -/
def pu (B cut M : Nat) (acc : Nat) : List UInt8 → Lib.NumEnd Nat
  | [] => .ok acc
  | c :: r => if B ≤ dv c then .syntax else if cut ≤ acc then .range else if M < acc * B + dv c then .range else pu B cut M (acc * B + dv c) r
def puAll (B cut M : Nat) (l : List UInt8) : Lib.NumEnd Nat := if l = [] then .syntax else pu B cut M 0 l
def puTuple (M : Nat) : Lib.NumEnd Nat → Value
  | .ok v => .tuple #[.int .u64 v, .nilIface]
  | .syntax => .tuple #[.int .u64 0, .iface 121 (.int .i64 2)]
  | .range => .tuple #[.int .u64 M, .iface 121 (.int .i64 1)]
theorem below_bw (w : World) (s : ByteArray) : Below w.heap.size w (Lib.bytesWorld w 5 s) := Lib.bytesWorld_below w 5 s


set_option maxHeartbeats 32000000 in
set_option maxRecDepth 100000 in
theorem ipu_10_31 (t : ByteArray) (hmax : t.size ≤ 9223372036854775806) (w : World) :
    Calls Tryz.prog 71 #[.string t, .int .i64 10, .int .i64 31] w fun e w' => e = .returned (puTuple 2147483647 (puAll 10 1844674407370955162 2147483647 t.data.toList)) ∧ Below w.heap.size w w' := by
  by_cases h0 : t.size = 0
  · have ht : t = ⟨#[]⟩ := by
      apply ByteArray.ext
      exact Array.eq_empty_of_size_eq_zero h0
    subst ht
    exact (Tryz.internal_strconv_ParseUint_empty 10 31 w).mono fun e w' ⟨he, hw⟩ => by subst hw; exact ⟨he, Below.refl _ _⟩
  have hall : puAll 10 1844674407370955162 2147483647 t.data.toList = pu 10 1844674407370955162 2147483647 0 t.data.toList := by
    unfold puAll
    rw [if_neg]
    intro h
    exact h0 (by rw [Lib.size_eq, h]; rfl)
  rw [hall]
  clear hall
  have hemp : t.toList.isEmpty = false := isEmpty_eq _ _ (by simp [h0])
  have hcv := Lib.run_convert_string_bytes (P := Tryz.prog) w 9 49 5 t (u := .string) (by kernel_rfl) (by kernel_rfl) (by kernel_rfl)
  have hB : ∀ j, j < t.size → (Lib.bytesWorld w 5 t).cell? ⟨w.heap.size, j, none⟩ = some (.int .u8 (t.data.toList.getD j 0).toNat) := fun j hj => Lib.bytesWorld_cell w 5 t j hj
  have HBW := Lib.hid (below_bw w t)
  obtain ⟨W1, hW1⟩ : ∃ W1, W1 = Lib.bytesWorld w 5 t := ⟨_, rfl⟩
  rw [← hW1] at hcv hB HBW
  clear hW1
  obtain ⟨bs, hL⟩ : ∃ bs, bs = t.data.toList := ⟨_, rfl⟩
  have hLn : bs.length = t.size := by rw [hL, Lib.size_eq]
  rw [← hL] at hB ⊢
  clear hL
  have hmv : IntKind.u64.wrap (IntKind.u64.wrap 2147483648 - 1) = 2147483647 := by
    rw [IntKind.wrap_u64, IntKind.wrap_u64]
    decide
  go_enter Tryz.func71, Tryz.ntmps71
  go_wp2
  go_loop [12, 13, 101] (fun vu vn vi => ∃ (k acc : Nat) (a : Int), vu = .bool false ∧ vn = .int .u64 a ∧ vi = .int .i64 k ∧ k ≤ t.size ∧ Hid (a = (acc : Int) ∧ acc < 18446744073709551616 ∧ pu 10 1844674407370955162 2147483647 0 bs = pu 10 1844674407370955162 2147483647 acc (bs.drop k)))
    (fun _ _ vi => t.size - (intOf vi).toNat)
  case atStart => exact ⟨0, 0, 0, rfl, rfl, rfl, by omega, rfl, by omega, rfl⟩
  case round =>
    obtain ⟨k, acc, a, rfl, rfl, rfl, hk, hh⟩ := hrel
    obtain ⟨ha, hacc, hdec⟩ := hh.out
    clear hh
    have a0 : 0 ≤ a := by omega
    have a1 : a < 18446744073709551616 := by omega
    by_cases hkn : k < t.size
    · have hc := hB k hkn
      have hdrop : bs.drop k = bs[k]'(by omega) :: bs.drop (k + 1) := List.drop_eq_getElem_cons (by omega)
      have hget : bs.getD k 0 = bs[k]'(by omega) := by simp [List.getD, List.getElem?_eq_getElem (show k < bs.length by omega)]
      rw [hdrop] at hdec
      rw [hget] at hc
      generalize bs[k]'(by omega) = c at hc hdec
      have hc256 : c.toNat < 256 := c.toNat_lt
      clear hB hdrop hget
      have hv0 := bits_lo_u8 .or (c.toNat : Int) 32
      have hv1 := bits_hi_u8 .or (c.toNat : Int) 32
      have LOW := fun x w => Tryz.internal_strconv_lower x w
      by_cases hdig : 48 ≤ c.toNat ∧ c.toNat ≤ 57
      · obtain ⟨hd0, hd1⟩ := hdig
        have hdv : dv c = c.toNat - 48 := by unfold dv; rw [if_pos ⟨hd0, hd1⟩]
        have hnB : ¬ 10 ≤ dv c := by omega
        by_cases hcut : 1844674407370955162 ≤ acc
        · have hF : pu 10 1844674407370955162 2147483647 acc (c :: bs.drop (k + 1)) = .range := by simp only [pu]; rw [if_neg hnB, if_pos hcut]
          rw [hF] at hdec
          have icut : 1844674407370955162 ≤ a := by omega
          clear hcut hacc hF ha hdv hnB
          go_wp2
          go_ret2
          first | exact ⟨rfl, HBW.out⟩ | exact ⟨by rw [hdec]; rfl, HBW.out⟩
        · have icut : a < 1844674407370955162 := by omega
          by_cases hov : 18446744073709551616 ≤ acc * 10 + (c.toNat - 48)
          · have hF : pu 10 1844674407370955162 2147483647 acc (c :: bs.drop (k + 1)) = .range := by simp only [pu]; rw [if_neg hnB, if_neg hcut, if_pos (by omega)]
            rw [hF] at hdec
            have iov : 18446744073709551616 ≤ a * 10 + ((c.toNat : Int) - 48) := by omega
            have hwr : IntKind.u64.wrap (a * 10 + ((c.toNat : Int) - 48)) = a * 10 + ((c.toNat : Int) - 48) - 18446744073709551616 := by
              rw [IntKind.wrap_u64]
              omega
            clear hcut hacc hF hov ha hdv hnB
            go_wp2
            go_ret2
            first | exact ⟨rfl, HBW.out⟩ | exact ⟨by rw [hdec]; rfl, HBW.out⟩
          · have iov : a * 10 + ((c.toNat : Int) - 48) < 18446744073709551616 := by omega
            by_cases hm : 2147483647 < acc * 10 + (c.toNat - 48)
            · have hF : pu 10 1844674407370955162 2147483647 acc (c :: bs.drop (k + 1)) = .range := by simp only [pu]; rw [if_neg hnB, if_neg hcut, if_pos (by omega)]
              rw [hF] at hdec
              have im : 2147483647 < a * 10 + ((c.toNat : Int) - 48) := by omega
              clear hcut hacc hF hov ha hdv hnB hm
              go_wp2
              go_ret2
              first | exact ⟨rfl, HBW.out⟩ | exact ⟨by rw [hdec]; rfl, HBW.out⟩
            · have hF : pu 10 1844674407370955162 2147483647 acc (c :: bs.drop (k + 1)) = pu 10 1844674407370955162 2147483647 (acc * 10 + (c.toNat - 48)) (bs.drop (k + 1)) := by simp only [pu]; rw [if_neg hnB, if_neg hcut, if_neg (by omega), hdv]
              have HN : Hid (a * 10 + ((c.toNat : Int) - 48) = ((acc * 10 + (c.toNat - 48) : Nat) : Int) ∧ acc * 10 + (c.toNat - 48) < 18446744073709551616 ∧ pu 10 1844674407370955162 2147483647 0 bs = pu 10 1844674407370955162 2147483647 (acc * 10 + (c.toNat - 48)) (bs.drop (k + 1))) := Lib.hid ⟨by omega, by omega, hdec.trans hF⟩
              have im : a * 10 + ((c.toNat : Int) - 48) ≤ 2147483647 := by omega
              clear hcut hacc hF hov hdec ha hdv hnB hm
              go_wp2
              refine ⟨⟨k + 1, acc * 10 + (c.toNat - 48), a * 10 + ((c.toNat : Int) - 48), rfl, (by first | rfl | (congr 1; omega)), (by first | rfl | (congr 1; omega)), by omega, HN⟩, by simp [intOf]; omega⟩
      · have hF : pu 10 1844674407370955162 2147483647 acc (c :: bs.drop (k + 1)) = .syntax := by
          simp only [pu]
          rw [if_pos]
          unfold dv
          rw [if_neg hdig]
          split <;> omega
        rw [hF] at hdec
        clear hacc hF ha
        have hu0 := bits_lo_u8 .or 95 32
        have hu1 := bits_hi_u8 .or 95 32
        go_wp2_with (go_at_call 86; refine (LOW _ _).mono ?_; rintro e w' ⟨rfl, rfl⟩)
        all_goals go_ret2
        all_goals first | exact ⟨rfl, HBW.out⟩ | exact ⟨by rw [hdec]; rfl, HBW.out⟩
    · have hkk : k = t.size := by omega
      subst hkk
      have e : bs.drop t.size = [] := List.drop_eq_nil_of_le (by omega)
      have e0 : pu 10 1844674407370955162 2147483647 acc [] = .ok acc := rfl
      rw [e, e0] at hdec
      clear hB
      go_wp2
      go_ret2
      first | exact ⟨rfl, HBW.out⟩ | exact ⟨by rw [ha]; rfl, HBW.out⟩ | exact ⟨by rw [hdec, ha]; rfl, HBW.out⟩

end Go.Proofs.YtjlnhifleepnoaaGreatDoor
