import Derived.Test.YtjlnhifleepnoaaGreatDoorQ2
set_option linter.unusedVariables false
set_option linter.unusedSimpArgs false
namespace Go.Proofs.YtjlnhifleepnoaaGreatDoor
open Go.RowKit

theorem rof_at (n m : Nat) (h : fx n = m) (w : World) : Calls Tryz.prog 54 #[.int .u64 n] w fun e w' => e = .returned (.float .f64 m) ∧ w' = w := by
  subst h; exact rof_walk n w
theorem rprint_at (c : Nat) (l : List UInt8) (hc : c < 18446744073709551616) (h : prt (fx c) = l) (w : World) : Calls Tryz.prog 43 #[.float .f64 c] w fun e w' => e = .returned (.string (S l)) ∧ w' = w := by
  subst h; exact rprint_walk c w hc

def oddB : Nat → Nat
  | 0 => theNaN
  | 1 => pinf
  | 2 => ninf
  | _ => nzero
def oddT : Nat → List UInt8
  | 0 => [110, 97, 110]
  | 1 => [105, 110, 102]
  | 2 => [45, 105, 110, 102]
  | _ => [45, 48]
/-- The bits of the number whose text l would be, by the document. -/
def dguess (l : List UInt8) : Nat :=
  if l = oddT 0 then oddB 0 else if l = oddT 1 then oddB 1 else if l = oddT 2 then oddB 2 else if l = oddT 3 then oddB 3
  else if l.length = 17 ∧ l.head? = some 120 then fx ((rd 16 l.tail).getD 0)
  else if l.head? = some 45 then Op.negFloat .f64 (floatOfInt .f64 ((rd 10 l.tail).getD 0))
  else floatOfInt .f64 ((rd 10 l).getD 0)

theorem odd_fx : ∀ i, i < 4 → fx (oddB i) = oddB i := by
  intro i hi
  rcases (by omega : i = 0 ∨ i = 1 ∨ i = 2 ∨ i = 3) with rfl | rfl | rfl | rfl <;> decide +kernel
theorem odd_prt : ∀ i, i < 4 → prt (fx (oddB i)) = oddT i := by
  intro i hi
  rcases (by omega : i = 0 ∨ i = 1 ∨ i = 2 ∨ i = 3) with rfl | rfl | rfl | rfl <;> decide +kernel
theorem odd_lt : ∀ i, i < 4 → oddB i < 18446744073709551616 := by
  intro i hi
  rcases (by omega : i = 0 ∨ i = 1 ∨ i = 2 ∨ i = 3) with rfl | rfl | rfl | rfl <;> decide +kernel
theorem dg_odd {l : List UInt8} {i : Nat} (hi : i < 4) (hj : ∀ j, j < i → l ≠ oddT j) (h : l = oddT i) : dguess l = oddB i := by
  unfold dguess
  rcases (by omega : i = 0 ∨ i = 1 ∨ i = 2 ∨ i = 3) with rfl | rfl | rfl | rfl
  · rw [if_pos h]
  · rw [if_neg (hj 0 (by omega)), if_pos h]
  · rw [if_neg (hj 0 (by omega)), if_neg (hj 1 (by omega)), if_pos h]
  · rw [if_neg (hj 0 (by omega)), if_neg (hj 1 (by omega)), if_neg (hj 2 (by omega)), if_pos h]

theorem run_neg (x : Nat) (W : World) : (Op.unary .neg (.float .f64 x)).run Tryz.prog W = .ok (.float .f64 (Op.negFloat .f64 x)) W := by
  simp [Op.unary]
theorem byte_ne {x k : UInt8} {n : Int} (hn : n = (k.toNat : Int)) (h : x ≠ k) : ((x.toNat : Int) == n) = false := by
  rw [beq_eq_false_iff_ne, hn]
  intro e
  exact h (UInt8.toNat_inj.1 (Int.ofNat_inj.1 e))
theorem dg_rest {l : List UInt8} (h0 : l ≠ oddT 0) (h1 : l ≠ oddT 1) (h2 : l ≠ oddT 2) (h3 : l ≠ oddT 3) : dguess l =
    if l.length = 17 ∧ l.head? = some 120 then fx ((rd 16 l.tail).getD 0)
    else if l.head? = some 45 then Op.negFloat .f64 (floatOfInt .f64 ((rd 10 l.tail).getD 0))
    else floatOfInt .f64 ((rd 10 l).getD 0) := by
  unfold dguess
  rw [if_neg h0, if_neg h1, if_neg h2, if_neg h3]
theorem rread_at (s : ByteArray) (B : Nat) (l : List UInt8) (hl : s.toList = l) (w : World) (hB : B = 10 ∨ B = 16) : Calls Tryz.prog 55 #[.string s, .int .i64 B] w fun e w' => (∃ ok, e = .returned (.tuple #[.int .u64 (((rd B l).getD 0 : Nat) : Int), .bool ok])) ∧ w' = w := by
  subst hl
  rw [ByteArray.toList_eq]
  refine (rread_walk s B w hB).mono ?_
  rintro e w' ⟨rfl, rfl⟩
  refine ⟨?_, rfl⟩
  cases rd B s.data.toList with
  | none => exact ⟨false, rfl⟩
  | some n => exact ⟨true, rfl⟩

set_option maxRecDepth 100000 in
set_option maxHeartbeats 2000000 in
theorem rguess_walk (s : ByteArray) (w : World) : Calls Tryz.prog 42 #[.string s] w (GuessPost (dguess s.toList) w) := by
  go_enter Tryz.func42, Tryz.ntmps42
  go_wp2
  go_loopw [15] (fun n wr => ∃ i : Nat, n = .int .i64 i ∧ i ≤ 4 ∧ Below w.heap.size w wr ∧ (∀ k, k < 4 → wr.cell? ⟨w.heap.size, k, none⟩ = some (.int .u64 (oddB k))) ∧ ∀ j, j < i → s.toList ≠ oddT j) (fun n _ => 4 - (intOf n).toNat)
  case atStart =>
    refine ⟨0, rfl, by omega, (Below.refl _ _).alloc (Nat.le_refl _) _, ?_, fun j h => by omega⟩
    intro k hk
    rcases (by omega : k = 0 ∨ k = 1 ∨ k = 2 ∨ k = 3) with rfl | rfl | rfl | rfl <;> (rw [cell_of_row _ _ _ _ _ _ (heap_alloc_new _ _)]; rfl)
  case round =>
    obtain ⟨i, rfl, hi, hb, hc, hj⟩ := hrel
    have HJ := Lib.hid hj; clear hj
    have HB := Lib.hid hb; clear hb
    have HC := Lib.hid hc; clear hc
    by_cases h : i < 4
    · have h' : (i : Int) < 4 := by omega
      have OF := rof_at (oddB i) (oddB i) (odd_fx i h)
      have PR := rprint_at (oddB i) (oddT i) (odd_lt i h) (odd_prt i h)
      have c1 := HC.out i h
      obtain ⟨b, hbb⟩ : ∃ b, b = oddB i := ⟨_, rfl⟩
      rw [← hbb] at OF PR c1
      by_cases hq : s.toList = oddT i
      · have t1 : (s.toList == (S (oddT i)).toList) = true := by simp [S, hq]
        have D := Lib.hid (dg_odd h HJ.out hq)
        have HBB := Lib.hid hbb
        clear hq hbb
        go_wp2_with (first | (go_at_call 54; refine (OF _).mono ?_; rintro e w' ⟨rfl, rfl⟩) | (go_at_call 43; refine (PR _).mono ?_; rintro e w' ⟨rfl, rfl⟩))
        go_ret
        exact ⟨by rw [D.out, ← HBB.out]; rfl, HB.out⟩
      · have t1 : (s.toList == (S (oddT i)).toList) = false := by rw [beq_eq_false_iff_ne]; intro h; exact hq (by simpa [S] using h)
        have HQ := Lib.hid hq
        clear hq hbb
        go_wp2_with (first | (go_at_call 54; refine (OF _).mono ?_; rintro e w' ⟨rfl, rfl⟩) | (go_at_call 43; refine (PR _).mono ?_; rintro e w' ⟨rfl, rfl⟩))
        go_roundw
        case rel => exact ⟨i + 1, by go_num, by omega, HB.out, HC.out, fun j hj => by rcases Nat.lt_succ_iff_lt_or_eq.1 hj with h | rfl; exact HJ.out j h; exact HQ.out⟩
        case measure => simp [intOf] <;> omega
    · obtain rfl : i = 4 := by omega
      have N0 := HJ.out 0 (by omega)
      have N1 := HJ.out 1 (by omega)
      have N2 := HJ.out 2 (by omega)
      have N3 := HJ.out 3 (by omega)
      have R16 : ∀ w, Calls Tryz.prog 55 #[.string (s.extract 1 s.size), .int .i64 16] w fun e w' => (∃ ok, e = .returned (.tuple #[.int .u64 (((rd 16 s.toList.tail).getD 0 : Nat) : Int), .bool ok])) ∧ w' = w := fun w => rread_at (s.extract 1 s.size) 16 s.toList.tail (by rw [ByteArray.toList_eq, drop1, ByteArray.toList_eq]) w (.inr rfl)
      have R10t : ∀ w, Calls Tryz.prog 55 #[.string (s.extract 1 s.size), .int .i64 10] w fun e w' => (∃ ok, e = .returned (.tuple #[.int .u64 (((rd 10 s.toList.tail).getD 0 : Nat) : Int), .bool ok])) ∧ w' = w := fun w => rread_at (s.extract 1 s.size) 10 s.toList.tail (by rw [ByteArray.toList_eq, drop1, ByteArray.toList_eq]) w (.inl rfl)
      have R10 : ∀ w, Calls Tryz.prog 55 #[.string s, .int .i64 10] w fun e w' => (∃ ok, e = .returned (.tuple #[.int .u64 (((rd 10 s.toList).getD 0 : Nat) : Int), .bool ok])) ∧ w' = w := fun w => rread_at s 10 s.toList rfl w (.inl rfl)
      have NG := run_neg
      have hbt : ∀ h : 0 < s.size, s.toList.head? = some (s[0]'h) := fun h => by
        rw [ByteArray.toList_eq, List.head?_eq_getElem?, List.getElem?_eq_getElem (by rw [← Lib.size_eq]; exact h)]
        rfl
      have DG := Lib.hid (dg_rest N0 N1 N2 N3)
      clear N0 N1 N2 N3 HC HJ h
      rcases Nat.eq_zero_or_pos s.size with hz | hpos
      · have e : s.toList = [] := (empty_iff s).2 hz
        have E1 := Lib.hid (show dguess s.toList = floatOfInt .f64 (((rd 10 s.toList).getD 0 : Nat) : Int) by rw [DG.out, e]; rfl)
        have a3 : ((s.size : Int) == 17) = false := by simp [hz]
        have a5 : ¬ (0 : Int) < s.size := by omega
        obtain ⟨v, hv⟩ : ∃ v, v = (rd 10 s.toList).getD 0 := ⟨_, rfl⟩
        rw [← hv] at R10 E1
        clear R16 R10t hbt e hz hv
        go_wp2_with (first | (go_at_call 55; refine (R10 _).mono ?_; rintro e w' ⟨⟨ok, rfl⟩, rfl⟩) | (go_at_call 54; refine (rof_walk _ _).mono ?_; rintro e w' ⟨rfl, rfl⟩))
        go_ret
        exact ⟨by rw [E1.out]; rfl, HB.out⟩
      · have hh := hbt hpos
        obtain ⟨x, hx⟩ : ∃ x, x = s[0]'hpos := ⟨_, rfl⟩
        rw [← hx] at hh
        clear hbt
        have hlen : s.toList.length = s.size := by rw [ByteArray.toList_eq]; exact (Lib.size_eq s).symm
        have hp : (0 : Int) < s.size := by omega
        have h1 : (1 : Int) ≤ s.size := by omega
        by_cases a1 : s.size = 17
        · have a3 : ((s.size : Int) == 17) = true := by simp [a1]
          by_cases x1 : x = 120
          · have E1 := Lib.hid (show dguess s.toList = fx ((rd 16 s.toList.tail).getD 0) by rw [DG.out, hh]; rw [if_pos ⟨by omega, by rw [x1]⟩])
            have b1 : (((s[0]'hpos).toNat : Int) == 120) = true := by rw [← hx, x1]; decide
            obtain ⟨v, hv⟩ : ∃ v, v = (rd 16 s.toList.tail).getD 0 := ⟨_, rfl⟩
            rw [← hv] at R16 E1
            try rw [a1] at R16
            clear R10t R10 hv hx hh DG hlen
            go_wp2_with (first | (go_at_call 55; refine (R16 _).mono ?_; rintro e w' ⟨⟨ok, rfl⟩, rfl⟩) | (go_at_call 54; refine (rof_walk _ _).mono ?_; rintro e w' ⟨rfl, rfl⟩))
            go_ret
            exact ⟨by rw [E1.out]; rfl, HB.out⟩
          · have y1 : (((s[0]'hpos).toNat : Int) == 120) = false := by rw [← hx]; exact byte_ne (k := 120) rfl x1
            by_cases x2 : x = 45
            · have E1 := Lib.hid (show dguess s.toList = Op.negFloat .f64 (floatOfInt .f64 (((rd 10 s.toList.tail).getD 0 : Nat) : Int)) by rw [DG.out, hh]; rw [if_neg (by rintro ⟨_, h⟩; exact x1 (Option.some.inj h)), if_pos (by rw [x2])])
              have b1 : (((s[0]'hpos).toNat : Int) == 45) = true := by rw [← hx, x2]; decide
              obtain ⟨v, hv⟩ : ∃ v, v = (rd 10 s.toList.tail).getD 0 := ⟨_, rfl⟩
              rw [← hv] at R10t E1
              try rw [a1] at R10t
              clear R16 R10 hv hx hh DG hlen
              go_wp2_with (first | (go_at_call 55; refine (R10t _).mono ?_; rintro e w' ⟨⟨ok, rfl⟩, rfl⟩) | (go_at_call 54; refine (rof_walk _ _).mono ?_; rintro e w' ⟨rfl, rfl⟩))
              go_ret
              exact ⟨by rw [E1.out]; rfl, HB.out⟩
            · have E1 := Lib.hid (show dguess s.toList = floatOfInt .f64 (((rd 10 s.toList).getD 0 : Nat) : Int) by rw [DG.out, hh]; rw [if_neg (by rintro ⟨_, h⟩; exact x1 (Option.some.inj h)), if_neg (fun h => x2 (Option.some.inj h))])
              have b1 : (((s[0]'hpos).toNat : Int) == 45) = false := by rw [← hx]; exact byte_ne (k := 45) rfl x2
              obtain ⟨v, hv⟩ : ∃ v, v = (rd 10 s.toList).getD 0 := ⟨_, rfl⟩
              rw [← hv] at R10 E1
              try rw [a1] at R10
              clear R16 R10t hv hx hh DG hlen
              go_wp2_with (first | (go_at_call 55; refine (R10 _).mono ?_; rintro e w' ⟨⟨ok, rfl⟩, rfl⟩) | (go_at_call 54; refine (rof_walk _ _).mono ?_; rintro e w' ⟨rfl, rfl⟩))
              go_ret
              exact ⟨by rw [E1.out]; rfl, HB.out⟩
        · have a3 : ((s.size : Int) == 17) = false := by simp only [beq_eq_false_iff_ne, ne_eq]; omega
          by_cases x2 : x = 45
          · have E1 := Lib.hid (show dguess s.toList = Op.negFloat .f64 (floatOfInt .f64 (((rd 10 s.toList.tail).getD 0 : Nat) : Int)) by rw [DG.out, hh]; rw [if_neg (by rintro ⟨h, _⟩; omega), if_pos (by rw [x2])])
            have b1 : (((s[0]'hpos).toNat : Int) == 45) = true := by rw [← hx, x2]; decide
            obtain ⟨v, hv⟩ : ∃ v, v = (rd 10 s.toList.tail).getD 0 := ⟨_, rfl⟩
            rw [← hv] at R10t E1
            clear R16 R10 hv hx hh DG hlen
            go_wp2_with (first | (go_at_call 55; refine (R10t _).mono ?_; rintro e w' ⟨⟨ok, rfl⟩, rfl⟩) | (go_at_call 54; refine (rof_walk _ _).mono ?_; rintro e w' ⟨rfl, rfl⟩))
            go_ret
            exact ⟨by rw [E1.out]; rfl, HB.out⟩
          · have E1 := Lib.hid (show dguess s.toList = floatOfInt .f64 (((rd 10 s.toList).getD 0 : Nat) : Int) by rw [DG.out, hh]; rw [if_neg (by rintro ⟨h, _⟩; omega), if_neg (fun h => x2 (Option.some.inj h))])
            have b1 : (((s[0]'hpos).toNat : Int) == 45) = false := by rw [← hx]; exact byte_ne (k := 45) rfl x2
            obtain ⟨v, hv⟩ : ∃ v, v = (rd 10 s.toList).getD 0 := ⟨_, rfl⟩
            rw [← hv] at R10 E1
            clear R16 R10t hv hx hh DG hlen
            go_wp2_with (first | (go_at_call 55; refine (R10 _).mono ?_; rintro e w' ⟨⟨ok, rfl⟩, rfl⟩) | (go_at_call 54; refine (rof_walk _ _).mono ?_; rintro e w' ⟨rfl, rfl⟩))
            go_ret
            exact ⟨by rw [E1.out]; rfl, HB.out⟩
end Go.Proofs.YtjlnhifleepnoaaGreatDoor
