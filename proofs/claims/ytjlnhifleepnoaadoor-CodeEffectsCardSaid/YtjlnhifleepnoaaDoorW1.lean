import Derived.Test.YtjlnhifleepnoaaDoorK19
import Derived.Test.YtjlnhifleepnoaaDoorK12
set_option linter.unusedVariables false
set_option linter.unusedSimpArgs false
namespace Go.Proofs.YtjlnhifleepnoaaDoor
open Go.RowKit

theorem eff_at (op a b c : Int) (w : World) (h1 : effT op = a) (h2 : effL op = b) (h3 : effE op = c) : Calls Tryd.prog 8 #[.int .i64 op] w fun e w' => e = .returned (.tuple #[.int .i64 a, .int .i64 b, .int .i64 c]) ∧ Below w.heap.size w w' := by
  subst h1 h2 h3
  exact effect_walk op w
theorem reff_at (op a b c : Int) (w : World) (h1 : effT op = a) (h2 : effL op = b) (h3 : effE op = c) : Calls Tryd.prog 9 #[.int .i64 op] w fun e w' => e = .returned (.tuple #[.int .i64 a, .int .i64 b, .int .i64 c]) ∧ Below w.heap.size w w' := by
  subst h1 h2 h3
  exact reffect_walk op w

set_option maxRecDepth 100000 in
theorem effects (op : Int) (w : World) (L : Laid2 w) : Calls Tryd.prog 3 #[.int .i64 op] w fun e w' => e = .returned (.bool true) ∧ Below w.heap.size w w' := by
  obtain ⟨a, ha⟩ : ∃ a, effT op = a := ⟨_, rfl⟩
  obtain ⟨b, hb⟩ : ∃ a, effL op = a := ⟨_, rfl⟩
  obtain ⟨c, hc⟩ : ∃ a, effE op = a := ⟨_, rfl⟩
  have EA : ∀ W, Calls Tryd.prog 8 #[.int .i64 op] W fun e w' => e = .returned (.tuple #[.int .i64 a, .int .i64 b, .int .i64 c]) ∧ Below W.heap.size W w' := fun W => eff_at op a b c W ha hb hc
  have EB : ∀ W, Calls Tryd.prog 9 #[.int .i64 op] W fun e w' => e = .returned (.tuple #[.int .i64 a, .int .i64 b, .int .i64 c]) ∧ Below W.heap.size W w' := fun W => reff_at op a b c W ha hb hc
  have LD := Lib.hid L
  clear L ha hb hc
  go_enter Tryd.func3, Tryd.ntmps3
  go_wp2_with (first
    | (go_at_call 7; refine (live_walk _ LD.out).mono ?_; rintro e w1 ⟨rfl, b1⟩; have C1 := Lib.hid (Chg.of_below (S := []) b1); clear b1)
    | (go_at_call 8; refine (EA _).mono ?_; rintro e w2 ⟨rfl, b2⟩; have C2 := Lib.hid (C1.out.trans (Chg.of_below b2)); clear b2)
    | (go_at_call 9; refine (EB _).mono ?_; rintro e w3 ⟨rfl, b3⟩; have C3 := Lib.hid (C2.out.trans (Chg.of_below b3)); clear b3))
  go_ret
  exact ⟨rfl, below_of_chg C3.out⟩
end Go.Proofs.YtjlnhifleepnoaaDoor
