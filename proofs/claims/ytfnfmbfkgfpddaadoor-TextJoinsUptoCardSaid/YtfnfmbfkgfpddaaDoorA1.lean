import Derived.Test.YtfnfmbfkgfpddaaDoorRows
import Derived.WalkKit
import Derived.WalkSpells
import Derived.WalkLawsBesides
import Derived.Deep.QuietTactic
import Derived.BigQuiet
import Derived.RegionTactic
import Derived.ChangeAlike
import Derived.Deep.Draws
import Derived.Lib.Hide
import Derived.Laws.FloatArith
import Derived.Laws.Externs
namespace Go.Proofs.YtfnfmbfkgfpddaaDoor
open Go.RowKit

/-- The float of these bits is no number. -/
def bad (b : Nat) : Bool := FloatKind.f64.format.order b b != some Ordering.eq
/-- The bits of the one NaN. -/
def theNaN : Nat := 9221120237041090560
/-- Bits with the one NaN. -/
def fx (b : Nat) : Nat := if bad b then theNaN else b

theorem cast_beq (a b : Nat) : ((a : Int) == (b : Int)) = (a == b) := by
  rw [Bool.eq_iff_iff]; simp [Int.ofNat_inj]
theorem run_frombits (n : Int) (w : World) : (callFunc 38 #[.int .u64 n]).run Tryd.prog w = .ok (.value (.float .f64 n.toNat)) w := by
  rw [run_callFunc_extern Tryd.func38 (by kernel_rfl) (by kernel_rfl) (by kernel_rfl) (e := Extern.MathFloatBits.float64frombits) (by kernel_rfl)]
  rfl
theorem run_bits (b : Nat) (w : World) : (callFunc 20 #[.float .f64 b]).run Tryd.prog w = .ok (.value (.int .u64 b)) w := by
  rw [run_callFunc_extern Tryd.func20 (by kernel_rfl) (by kernel_rfl) (by kernel_rfl) (e := Extern.MathFloatBits.float64bits) (by kernel_rfl)]
  rfl

set_option maxRecDepth 100000 in
theorem fix_walk (b : Nat) (w : World) : Calls Tryd.prog 33 #[.float .f64 b] w fun e w' => e = .returned (.float .f64 (fx b)) ∧ w' = w := by
  have e38 := run_frombits
  cases h : bad b
  · have h2 : (FloatKind.f64.format.order b b != some Ordering.eq) = false := h
    have g : fx b = b := by simp [fx, h]
    rw [g]
    clear h g
    go_enter Tryd.func33, Tryd.ntmps33
    go_wp2
    go_ret
    exact ⟨rfl, rfl⟩
  · have h2 : (FloatKind.f64.format.order b b != some Ordering.eq) = true := h
    have g : fx b = theNaN := by simp [fx, h]
    rw [g]
    clear h g
    go_enter Tryd.func33, Tryd.ntmps33
    go_wp2
    go_ret
    exact ⟨rfl, rfl⟩

set_option maxRecDepth 100000 in
theorem bits_walk (b : Nat) (w : World) : Calls Tryd.prog 35 #[.float .f64 b] w fun e w' => e = .returned (.int .u64 (fx b)) ∧ w' = w := by
  have e20 := run_bits
  go_enter Tryd.func35, Tryd.ntmps35
  go_wp2_with (go_at_call 33; refine (fix_walk _ _).mono ?_; rintro e w' ⟨rfl, rfl⟩)
  go_ret
  exact ⟨rfl, rfl⟩

set_option maxRecDepth 100000 in
theorem of_walk (n : Nat) (w : World) : Calls Tryd.prog 54 #[.int .u64 n] w fun e w' => e = .returned (.float .f64 (fx n)) ∧ w' = w := by
  have e38 := run_frombits
  go_enter Tryd.func54, Tryd.ntmps54
  go_wp2_with (go_at_call 33; refine (fix_walk _ _).mono ?_; rintro e w' ⟨rfl, rfl⟩)
  go_ret
  exact ⟨rfl, rfl⟩

set_option maxRecDepth 100000 in
theorem same_walk (a b : Nat) (w : World) : Calls Tryd.prog 34 #[.float .f64 a, .float .f64 b] w fun e w' => e = .returned (.bool (fx a == fx b)) ∧ w' = w := by
  go_enter Tryd.func34, Tryd.ntmps34
  go_wp2_with (go_at_call 35; refine (bits_walk _ _).mono ?_; rintro e w' ⟨rfl, rfl⟩)
  go_ret
  exact ⟨by rw [cast_beq]; rfl, rfl⟩

set_option maxRecDepth 100000 in
theorem raw_walk (n : Nat) (w : World) : Calls Tryd.prog 15 #[.int .u64 n] w fun e w' => e = .returned (.float .f64 n) ∧ w' = w := by
  have e38 := run_frombits
  go_enter Tryd.func15, Tryd.ntmps15
  go_wp2
  go_ret
  exact ⟨rfl, rfl⟩

set_option maxRecDepth 100000 in
/-- The document's Bits. -/
theorem rbits_walk (b : Nat) (w : World) : Calls Tryd.prog 28 #[.float .f64 b] w fun e w' => e = .returned (.int .u64 (fx b)) ∧ w' = w := by
  have e20 := run_bits
  cases h : bad b
  · have h2 : (FloatKind.f64.format.order b b != some Ordering.eq) = false := h
    have g : fx b = b := by simp [fx, h]
    rw [g]
    clear h g
    go_enter Tryd.func28, Tryd.ntmps28
    go_wp2
    go_ret
    exact ⟨rfl, rfl⟩
  · have h2 : (FloatKind.f64.format.order b b != some Ordering.eq) = true := h
    have g : fx b = theNaN := by simp [fx, h]
    rw [g]
    clear h g
    go_enter Tryd.func28, Tryd.ntmps28
    go_wp2
    go_ret
    exact ⟨rfl, rfl⟩

set_option maxRecDepth 100000 in
theorem rfix_walk (b : Nat) (w : World) : Calls Tryd.prog 74 #[.float .f64 b] w fun e w' => e = .returned (.float .f64 (fx b)) ∧ w' = w := by
  have e38 := run_frombits
  cases h : bad b
  · have h2 : (FloatKind.f64.format.order b b != some Ordering.eq) = false := h
    have g : fx b = b := by simp [fx, h]
    rw [g]
    clear h g
    go_enter Tryd.func74, Tryd.ntmps74
    go_wp2
    go_ret
    exact ⟨rfl, rfl⟩
  · have h2 : (FloatKind.f64.format.order b b != some Ordering.eq) = true := h
    have g : fx b = theNaN := by simp [fx, h]
    rw [g]
    clear h g
    go_enter Tryd.func74, Tryd.ntmps74
    go_wp2
    go_ret
    exact ⟨rfl, rfl⟩

set_option maxRecDepth 100000 in
theorem rof_walk (n : Nat) (w : World) : Calls Tryd.prog 56 #[.int .u64 n] w fun e w' => e = .returned (.float .f64 (fx n)) ∧ w' = w := by
  have e38 := run_frombits
  go_enter Tryd.func56, Tryd.ntmps56
  go_wp2_with (go_at_call 74; refine (rfix_walk _ _).mono ?_; rintro e w' ⟨rfl, rfl⟩)
  go_ret
  exact ⟨rfl, rfl⟩

set_option maxRecDepth 100000 in
theorem rsame_walk (a b : Nat) (w : World) : Calls Tryd.prog 29 #[.float .f64 a, .float .f64 b] w fun e w' => e = .returned (.bool (fx a == fx b)) ∧ w' = w := by
  go_enter Tryd.func29, Tryd.ntmps29
  go_wp2_with (go_at_call 28; refine (rbits_walk _ _).mono ?_; rintro e w' ⟨rfl, rfl⟩)
  go_ret
  exact ⟨by rw [cast_beq]; rfl, rfl⟩
end Go.Proofs.YtfnfmbfkgfpddaaDoor
