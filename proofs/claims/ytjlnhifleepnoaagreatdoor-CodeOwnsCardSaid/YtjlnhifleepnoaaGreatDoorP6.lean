import Derived.Test.YtjlnhifleepnoaaGreatDoorP5
set_option linter.unusedVariables false
set_option linter.unusedSimpArgs false
namespace Go.Proofs.YtjlnhifleepnoaaGreatDoor
open Go.RowKit

/-- text.Print at any number whose bits are in range. -/
theorem print_walk (c : Nat) (w : World) (L : Laid w) (hc : c < 18446744073709551616) (hf : fx c = c) : Calls Tryz.prog 34 #[.float .f64 c] w (PrintPost w (prt c)) := by
  by_cases ho : isOdd c
  · rcases ho with rfl | rfl | rfl | rfl
    · exact (print_nan w).mono fun e w' ⟨h, h2⟩ => by subst h2; exact ⟨h, Below.refl _ _⟩
    · exact (print_inf w).mono fun e w' ⟨h, h2⟩ => by subst h2; exact ⟨h, Below.refl _ _⟩
    · exact (print_ninf w).mono fun e w' ⟨h, h2⟩ => by subst h2; exact ⟨h, Below.refl _ _⟩
    · exact (print_nzero w).mono fun e w' ⟨h, h2⟩ => by subst h2; exact ⟨h, Below.refl _ _⟩
  · exact print_gen c w L hc hf ho
end Go.Proofs.YtjlnhifleepnoaaGreatDoor
