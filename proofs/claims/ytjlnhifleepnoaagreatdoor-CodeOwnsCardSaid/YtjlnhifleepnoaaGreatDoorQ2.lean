import Derived.Test.YtjlnhifleepnoaaGreatDoorQ1
set_option linter.unusedVariables false
set_option linter.unusedSimpArgs false
namespace Go.Proofs.YtjlnhifleepnoaaGreatDoor
open Go.RowKit

def rdl (B : Nat) (acc : Nat) : List UInt8 → Option Nat
  | [] => some acc
  | c :: r => if wv B c.toNat < 0 then none else rdl B (acc * B + (wv B c.toNat).toNat) r
/-- What the document's read says: at most 16 digits to the base B. -/
def rd (B : Nat) (l : List UInt8) : Option Nat := if l = [] ∨ 16 < l.length then none else rdl B 0 l
def rdTuple : Option Nat → Value
  | some n => .tuple #[.int .u64 n, .bool true]
  | none => .tuple #[.int .u64 0, .bool false]
theorem wv_lt (B c : Nat) : wv B c < B ∨ wv B c = -1 := by
  unfold wv
  split
  · omega
  · split <;> omega
theorem wv_ge (B c : Nat) : -1 ≤ wv B c := by
  unfold wv
  split
  · omega
  · split <;> omega

theorem step_lt {acc B i d : Nat} (h : acc < 16 ^ i) (hB : B = 10 ∨ B = 16) (hd : d < B) : acc * B + d < 16 ^ (i + 1) := by
  rw [Nat.pow_succ]
  rcases hB with rfl | rfl <;> omega
theorem pow_bound {i : Nat} (h : i < 16) : 16 ^ (i + 1) ≤ 18446744073709551616 :=
  Nat.le_trans (Nat.pow_le_pow_right (by decide) (by omega : i + 1 ≤ 16)) (by decide)

set_option maxRecDepth 100000 in
set_option maxHeartbeats 1000000 in
theorem rread_walk (s : ByteArray) (B : Nat) (w : World) (hB : B = 10 ∨ B = 16) : Calls Tryz.prog 55 #[.string s, .int .i64 B] w fun e w' => e = .returned (rdTuple (rd B s.data.toList)) ∧ w' = w := by
  have hlen : s.data.toList.length = s.size := (Lib.size_eq s).symm
  by_cases h0 : s.size = 0
  · have e : rd B s.data.toList = none := by unfold rd; rw [if_pos (.inl (List.eq_nil_of_length_eq_zero (by omega)))]
    rw [e]
    simp only [rdTuple]
    have k4 : s.toList.isEmpty = true := isEmpty_eq _ _ (by simp [h0])
    have k5 : s.toList = [] := (empty_iff s).2 h0
    go_enter Tryz.func55, Tryz.ntmps55
    go_wp2
    go_ret2
    exact ⟨rfl, rfl⟩
  have k4 : s.toList.isEmpty = false := isEmpty_eq _ _ (by simp [h0])
  have k5 : ¬ s.toList = [] := fun h => h0 ((empty_iff s).1 h)
  by_cases h16 : 16 < s.size
  · have e : rd B s.data.toList = none := by unfold rd; rw [if_pos (.inr (by omega))]
    rw [e]
    simp only [rdTuple]
    have k3 : (16 : Int) < s.size := by omega
    go_enter Tryz.func55, Tryz.ntmps55
    go_wp2
    go_ret2
    exact ⟨rfl, rfl⟩
  have e : rd B s.data.toList = rdl B 0 s.data.toList := by
    unfold rd
    rw [if_neg]
    rintro (h | h)
    · exact h0 (by rw [← hlen, h]; rfl)
    · omega
  rw [e]
  clear e
  obtain ⟨l, hl⟩ : ∃ l, l = s.data.toList := ⟨_, rfl⟩
  rw [← hl] at hlen ⊢
  have HL := Lib.hid hl
  clear hl
  have k3 : ¬ (16 : Int) < s.size := by omega
  have hB0 : (0 : Int) ≤ B := by omega
  go_enter Tryz.func55, Tryz.ntmps55
  go_wp2
  go_loopw [6, 7] (fun v n wr => ∃ (i : Nat) (acc : Nat) (a : Int), wr = w ∧ v = .int .u64 a ∧ n = .int .i64 i ∧ i ≤ s.size ∧ Hid (a = (acc : Int) ∧ acc < 16 ^ i ∧ rdl B 0 l = rdl B acc (l.drop i))) (fun _ n _ => s.size - (intOf n).toNat)
  case atStart => exact ⟨0, 0, 0, rfl, rfl, rfl, by omega, rfl, by simp, rfl⟩
  case round =>
    obtain ⟨i, acc, a, rfl, rfl, rfl, hi, hh⟩ := hrel
    obtain ⟨ha, hacc, hdec⟩ := hh.out
    clear hh
    by_cases h : i < s.size
    · have hdrop : l.drop i = l[i]'(by omega) :: l.drop (i + 1) := List.drop_eq_getElem_cons (by omega)
      have hget : (s[i]'h) = l[i]'(by omega) := by
        have e := HL.out
        subst e
        rfl
      rw [hdrop, ← hget] at hdec
      clear hdrop hget
      have h' : (i : Int) < s.size := by omega
      have WW := worth_walk (s[i]'h).toNat B
      obtain ⟨d, hd⟩ : ∃ d, d = wv B (s[i]'h).toNat := ⟨_, rfl⟩
      have hr1 := wv_lt B (s[i]'h).toNat
      have hr2 := wv_ge B (s[i]'h).toNat
      simp only [rdl] at hdec
      rw [← hd] at WW hr1 hr2 hdec
      clear hd
      have hB16 : B ≤ 16 := by omega
      by_cases hneg : d < 0
      · rw [if_pos hneg] at hdec
        have D := Lib.hid hdec
        clear hdec hacc ha hr1 hr2
        go_wp2_with (go_at_call 74; refine (WW _ hB16).mono ?_; rintro e w' ⟨rfl, rfl⟩)
        go_ret2
        first | exact ⟨by rw [D.out]; rfl, rfl⟩ | exact ⟨rfl, rfl⟩
      · rw [if_neg hneg] at hdec
        have hst := step_lt (d := d.toNat) hacc hB (by omega)
        have hpb := pow_bound (i := i) (by omega)
        have hcast : a * (B : Int) + d = ((acc * B + d.toNat : Nat) : Int) := by
          rw [ha, Int.natCast_add, Int.natCast_mul, Int.toNat_of_nonneg (by omega)]
        have hm0 : (0 : Int) ≤ a * B := by rw [ha]; exact Int.mul_nonneg (by omega) (by omega)
        have hm2 : a * (B : Int) + d < 18446744073709551616 := by rw [hcast]; omega
        have hm1 : a * (B : Int) < 18446744073709551616 := by omega
        have HN : Hid (a * (B : Int) + d = ((acc * B + d.toNat : Nat) : Int) ∧ acc * B + d.toNat < 16 ^ (i + 1) ∧ rdl B 0 l = rdl B (acc * B + d.toNat) (l.drop (i + 1))) := Lib.hid ⟨hcast, hst, hdec⟩
        have d0 : 0 ≤ d := by omega
        have d1 : d < 16 := by omega
        have b1 : (B : Int) ≤ 16 := by omega
        clear hdec hacc ha hr1 hr2 hcast hst hpb hneg
        go_wp2_with (go_at_call 74; refine (WW _ hB16).mono ?_; rintro e w' ⟨rfl, rfl⟩)
        go_roundw
        case rel => exact ⟨i + 1, acc * B + d.toNat, a * B + d, trivial, by first | rfl | (congr 1; omega), by go_num, by omega, HN⟩
        case measure => simp [intOf] <;> omega
    · obtain rfl : i = s.size := by omega
      have e : l.drop s.size = [] := List.drop_eq_nil_of_le (by omega)
      have e0 : rdl B acc [] = some acc := rfl
      rw [e, e0] at hdec
      have D := Lib.hid hdec
      clear hdec hacc
      go_wp2
      go_ret2
      first | exact ⟨by rw [D.out, ha]; rfl, rfl⟩ | exact ⟨by rw [D.out]; rfl, rfl⟩
end Go.Proofs.YtjlnhifleepnoaaGreatDoor
