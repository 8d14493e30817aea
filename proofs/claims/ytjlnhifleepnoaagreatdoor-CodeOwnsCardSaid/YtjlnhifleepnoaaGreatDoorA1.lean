import Derived.Test.YtjlnhifleepnoaaGreatDoorRows
import Derived.WalkKit
import Derived.WalkSpells
import Derived.WalkLawsBesides
import Derived.Deep.QuietTactic
import Derived.BigQuiet
import Derived.RegionTactic
import Derived.ChangeAlike
import Derived.Deep.Draws
import Derived.Lib.Hide
import Derived.Laws.FloatArith
import Derived.Laws.Externs
namespace Go.Proofs.YtjlnhifleepnoaaGreatDoor
open Go.RowKit

/-- The float of these bits is no number. -/
def bad (b : Nat) : Bool := FloatKind.f64.format.order b b != some Ordering.eq
/-- The bits of the one NaN. -/
def theNaN : Nat := 9221120237041090560
/-- Bits with the one NaN. -/
def fx (b : Nat) : Nat := if bad b then theNaN else b

theorem cast_beq (a b : Nat) : ((a : Int) == (b : Int)) = (a == b) := by
  rw [Bool.eq_iff_iff]; simp [Int.ofNat_inj]
theorem run_frombits (n : Int) (w : World) : (callFunc 58 #[.int .u64 n]).run Tryz.prog w = .ok (.value (.float .f64 n.toNat)) w := by
  rw [run_callFunc_extern Tryz.func58 (by kernel_rfl) (by kernel_rfl) (by kernel_rfl) (e := Extern.MathFloatBits.float64frombits) (by kernel_rfl)]
  rfl
theorem run_bits (b : Nat) (w : World) : (callFunc 32 #[.float .f64 b]).run Tryz.prog w = .ok (.value (.int .u64 b)) w := by
  rw [run_callFunc_extern Tryz.func32 (by kernel_rfl) (by kernel_rfl) (by kernel_rfl) (e := Extern.MathFloatBits.float64bits) (by kernel_rfl)]
  rfl

set_option maxRecDepth 100000 in
theorem fix_walk (b : Nat) (w : World) : Calls Tryz.prog 45 #[.float .f64 b] w fun e w' => e = .returned (.float .f64 (fx b)) ∧ w' = w := by
  have e38 := run_frombits
  cases h : bad b
  · have h2 : (FloatKind.f64.format.order b b != some Ordering.eq) = false := h
    have g : fx b = b := by simp [fx, h]
    rw [g]
    clear h g
    go_enter Tryz.func45, Tryz.ntmps45
    go_wp2
    go_ret
    exact ⟨rfl, rfl⟩
  · have h2 : (FloatKind.f64.format.order b b != some Ordering.eq) = true := h
    have g : fx b = theNaN := by simp [fx, h]
    rw [g]
    clear h g
    go_enter Tryz.func45, Tryz.ntmps45
    go_wp2
    go_ret
    exact ⟨rfl, rfl⟩

set_option maxRecDepth 100000 in
theorem bits_walk (b : Nat) (w : World) : Calls Tryz.prog 47 #[.float .f64 b] w fun e w' => e = .returned (.int .u64 (fx b)) ∧ w' = w := by
  have e20 := run_bits
  go_enter Tryz.func47, Tryz.ntmps47
  go_wp2_with (go_at_call 45; refine (fix_walk _ _).mono ?_; rintro e w' ⟨rfl, rfl⟩)
  go_ret
  exact ⟨rfl, rfl⟩

set_option maxRecDepth 100000 in
theorem of_walk (n : Nat) (w : World) : Calls Tryz.prog 69 #[.int .u64 n] w fun e w' => e = .returned (.float .f64 (fx n)) ∧ w' = w := by
  have e38 := run_frombits
  go_enter Tryz.func69, Tryz.ntmps69
  go_wp2_with (go_at_call 45; refine (fix_walk _ _).mono ?_; rintro e w' ⟨rfl, rfl⟩)
  go_ret
  exact ⟨rfl, rfl⟩

set_option maxRecDepth 100000 in
theorem same_walk (a b : Nat) (w : World) : Calls Tryz.prog 38 #[.float .f64 a, .float .f64 b] w fun e w' => e = .returned (.bool (fx a == fx b)) ∧ w' = w := by
  go_enter Tryz.func38, Tryz.ntmps38
  go_wp2_with (go_at_call 47; refine (bits_walk _ _).mono ?_; rintro e w' ⟨rfl, rfl⟩)
  go_ret
  exact ⟨by rw [cast_beq]; rfl, rfl⟩

set_option maxRecDepth 100000 in
/-- The document's Bits. -/
theorem rbits_walk (b : Nat) (w : World) : Calls Tryz.prog 16 #[.float .f64 b] w fun e w' => e = .returned (.int .u64 (fx b)) ∧ w' = w := by
  have e20 := run_bits
  cases h : bad b
  · have h2 : (FloatKind.f64.format.order b b != some Ordering.eq) = false := h
    have g : fx b = b := by simp [fx, h]
    rw [g]
    clear h g
    go_enter Tryz.func16, Tryz.ntmps16
    go_wp2
    go_ret
    exact ⟨rfl, rfl⟩
  · have h2 : (FloatKind.f64.format.order b b != some Ordering.eq) = true := h
    have g : fx b = theNaN := by simp [fx, h]
    rw [g]
    clear h g
    go_enter Tryz.func16, Tryz.ntmps16
    go_wp2
    go_ret
    exact ⟨rfl, rfl⟩
end Go.Proofs.YtjlnhifleepnoaaGreatDoor
