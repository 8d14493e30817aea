import Derived.Test.YtjlnhifleepnoaaGreatDoorK3
set_option linter.unusedVariables false
set_option linter.unusedSimpArgs false
namespace Go.Proofs.YtjlnhifleepnoaaGreatDoor
open Go.RowKit

def SameI (p q : Ins) : Prop := p.op = q.op ∧ p.n = q.n ∧ fx p.x = fx q.x
def SameP (ta tb : Int) (l m : List Ins) : Prop := ta = tb ∧ l.length = m.length ∧ ∀ j (hj : j < l.length) (hj' : j < m.length), SameI l[j] m[j]
theorem same_r (x y : Nat) (w : World) (r : Bool) (h : (fx x == fx y) = r) : Calls Tryz.prog 38 #[.float .f64 x, .float .f64 y] w fun e w' => e = .returned (.bool r) ∧ w' = w := by
  subst h; exact same_walk x y w

end Go.Proofs.YtjlnhifleepnoaaGreatDoor
